/-
  What is proved here: whether an event may be, the document's way, is mayE. Conditions: texts of at most a million bytes.
-/
import Derived.Test.YtdkgphambjnbiaaDoorEvMay
namespace Go.Proofs.YtdkgphambjnbiaaDoor
open Go Go.RowKit Go.Proofs
attribute [local go_sem ↓] Go.wp_at_zero Go.wp_at_succ

set_option maxRecDepth 100000 in
set_option maxHeartbeats 8000000 in
theorem ref_May_a (e : Ev) (w : World) (hsm : EvSm e) (h1 : nameB e.src = true) (h2 : 1 ≤ e.num) (h3 : e.num ≤ 1099511627776) (h4 : 0 ≤ e.tick) (h5 : e.tick ≤ 1099511627776) (hk : e.kind = 0 ∨ e.kind = 1 ∨ e.kind = 2 ∨ e.kind = 3 ∨ e.kind = 5 ∨ e.kind = 6) :
    Calls Tryd.prog 42 #[.agg #[.string e.src, .int .i64 e.num, .int .i64 e.tick, .int .i64 e.kind, .string e.person, .string e.item, .int .i64 e.value, .string e.text]] w fun r w' => r = .returned (.bool (tailE e)) ∧ Ext w w' := by
  have hp1 := sm_max hsm.src
  have hp2 := sm_max hsm.person
  have hp3 := sm_max hsm.item
  have hp4 := sm_max hsm.text
  have hp5 : e.text.size ≤ 1000000 := by have := hsm.text; omega
  have Hf := Lib.hid (tail_a hk)
  clear hsm
  rcases hk with hk | hk | hk | hk | hk | hk
  all_goals
    rw [hk]
    clear hk
    go_enter Tryd.func42, Tryd.ntmps42
    go_wp2_with (first | (go_at_call 36; with_reducible refine (ref_Name e.src _ hp1).mono ?_; rw [h1]; rintro _ w' ⟨rfl, rfl⟩) | (go_at_call 54; refine (ref_In _ _ _ _).mono ?_; rintro _ w' ⟨rfl, rfl⟩))
    go_quiet (fail)
    go_wp2_with (first | (go_at_call 36; with_reducible refine (ref_Name e.person _ hp2).mono ?_; rintro _ w' ⟨rfl, rfl⟩) | (go_at_call 36; with_reducible refine (ref_Name e.item _ hp3).mono ?_; rintro _ w' ⟨rfl, rfl⟩))
    all_goals
      go_ret
      refine ⟨?_, ?_⟩
      · rw [Hf.out]; first | (simp [*, noneB]; done) | (simp [*, noneB]; rfl) | (simp [*, noneB]; intros; omega)
      · exact ((Keeps.refl (fun _ => True) w).alloc _).drewN _
set_option maxRecDepth 100000 in
set_option maxHeartbeats 8000000 in
theorem ref_May_b (e : Ev) (w : World) (hsm : EvSm e) (h1 : nameB e.src = true) (h2 : 1 ≤ e.num) (h3 : e.num ≤ 1099511627776) (h4 : 0 ≤ e.tick) (h5 : e.tick ≤ 1099511627776) (hk : e.kind = 4) :
    Calls Tryd.prog 42 #[.agg #[.string e.src, .int .i64 e.num, .int .i64 e.tick, .int .i64 e.kind, .string e.person, .string e.item, .int .i64 e.value, .string e.text]] w fun r w' => r = .returned (.bool (tailE e)) ∧ Ext w w' := by
  have hp1 := sm_max hsm.src
  have hp2 := sm_max hsm.person
  have hp3 := sm_max hsm.item
  have hp4 := sm_max hsm.text
  have hp5 : e.text.size ≤ 1000000 := by have := hsm.text; omega
  have Hf := Lib.hid (tail_b hk)
  clear hsm
  rw [hk]
  clear hk
  go_enter Tryd.func42, Tryd.ntmps42
  go_wp2_with (first | (go_at_call 36; with_reducible refine (ref_Name e.src _ hp1).mono ?_; rw [h1]; rintro _ w' ⟨rfl, rfl⟩) | (go_at_call 54; refine (ref_In _ _ _ _).mono ?_; rintro _ w' ⟨rfl, rfl⟩))
  go_quiet (fail)
  go_wp2_with (first | (go_at_call 36; with_reducible refine (ref_Name e.person _ hp2).mono ?_; rintro _ w' ⟨rfl, rfl⟩) | (go_at_call 36; with_reducible refine (ref_Name e.item _ hp3).mono ?_; rintro _ w' ⟨rfl, rfl⟩) | (go_at_call 54; refine (ref_In _ _ _ _).mono ?_; rintro _ w' ⟨rfl, rfl⟩))
  all_goals
    go_ret
    refine ⟨?_, ?_⟩
    · rw [Hf.out]; first | (simp [*, noneB]; done) | (simp [*, noneB]; rfl) | (simp [*, noneB]; intros; omega)
    · exact ((Keeps.refl (fun _ => True) w).alloc _).drewN _
set_option maxRecDepth 100000 in
set_option maxHeartbeats 8000000 in
theorem ref_May_c (e : Ev) (w : World) (hsm : EvSm e) (h1 : nameB e.src = true) (h2 : 1 ≤ e.num) (h3 : e.num ≤ 1099511627776) (h4 : 0 ≤ e.tick) (h5 : e.tick ≤ 1099511627776) (hk : e.kind = 7 ∨ e.kind = 8 ∨ e.kind = 9 ∨ e.kind = 10) :
    Calls Tryd.prog 42 #[.agg #[.string e.src, .int .i64 e.num, .int .i64 e.tick, .int .i64 e.kind, .string e.person, .string e.item, .int .i64 e.value, .string e.text]] w fun r w' => r = .returned (.bool (tailE e)) ∧ Ext w w' := by
  have hp1 := sm_max hsm.src
  have hp2 := sm_max hsm.person
  have hp3 := sm_max hsm.item
  have hp4 := sm_max hsm.text
  have hp5 : e.text.size ≤ 1000000 := by have := hsm.text; omega
  have Hf := Lib.hid (tail_c hk)
  clear hsm
  rcases hk with hk | hk | hk | hk
  all_goals
    rw [hk]
    clear hk
    go_enter Tryd.func42, Tryd.ntmps42
    go_wp2_with (first | (go_at_call 36; with_reducible refine (ref_Name e.src _ hp1).mono ?_; rw [h1]; rintro _ w' ⟨rfl, rfl⟩) | (go_at_call 54; refine (ref_In _ _ _ _).mono ?_; rintro _ w' ⟨rfl, rfl⟩))
    go_quiet (fail)
    go_wp2_with (first | (go_at_call 36; with_reducible refine (ref_Name e.person _ hp2).mono ?_; rintro _ w' ⟨rfl, rfl⟩) | (go_at_call 36; with_reducible refine (ref_Name e.text _ hp4).mono ?_; rintro _ w' ⟨rfl, rfl⟩))
    all_goals
      go_ret
      refine ⟨?_, ?_⟩
      · rw [Hf.out]; first | (simp [*, noneB]; done) | (simp [*, noneB]; rfl) | (simp [*, noneB]; intros; omega)
      · exact ((Keeps.refl (fun _ => True) w).alloc _).drewN _
set_option maxRecDepth 100000 in
set_option maxHeartbeats 8000000 in
theorem ref_May_d (e : Ev) (w : World) (hsm : EvSm e) (h1 : nameB e.src = true) (h2 : 1 ≤ e.num) (h3 : e.num ≤ 1099511627776) (h4 : 0 ≤ e.tick) (h5 : e.tick ≤ 1099511627776) (hk : e.kind = 11) :
    Calls Tryd.prog 42 #[.agg #[.string e.src, .int .i64 e.num, .int .i64 e.tick, .int .i64 e.kind, .string e.person, .string e.item, .int .i64 e.value, .string e.text]] w fun r w' => r = .returned (.bool (tailE e)) ∧ Ext w w' := by
  have hp1 := sm_max hsm.src
  have hp2 := sm_max hsm.person
  have hp3 := sm_max hsm.item
  have hp4 := sm_max hsm.text
  have hp5 : e.text.size ≤ 1000000 := by have := hsm.text; omega
  have Hf := Lib.hid (tail_d hk)
  clear hsm
  rw [hk]
  clear hk
  go_enter Tryd.func42, Tryd.ntmps42
  go_wp2_with (first | (go_at_call 36; with_reducible refine (ref_Name e.src _ hp1).mono ?_; rw [h1]; rintro _ w' ⟨rfl, rfl⟩) | (go_at_call 54; refine (ref_In _ _ _ _).mono ?_; rintro _ w' ⟨rfl, rfl⟩))
  go_quiet (fail)
  go_wp2_with (first | (go_at_call 36; with_reducible refine (ref_Name e.item _ hp3).mono ?_; rintro _ w' ⟨rfl, rfl⟩) | (go_at_call 54; refine (ref_In _ _ _ _).mono ?_; rintro _ w' ⟨rfl, rfl⟩) | (go_at_call 55; refine (ref_Label e.text _ hp5).mono ?_; rintro _ w' ⟨rfl, hx⟩; have Hx := Lib.hid (Keeps.trans (((Keeps.refl (fun _ => True) w).alloc _).drewN _) hx); clear hx))
  all_goals
    go_ret
    refine ⟨?_, ?_⟩
    · rw [Hf.out]; first | (simp [*, noneB]; done) | (simp [*, noneB]; rfl) | (simp [*, noneB]; intros; omega)
    · exact Hx.out
set_option maxRecDepth 100000 in
set_option maxHeartbeats 8000000 in
theorem ref_May_e (e : Ev) (w : World) (hsm : EvSm e) (h1 : nameB e.src = true) (h2 : 1 ≤ e.num) (h3 : e.num ≤ 1099511627776) (h4 : 0 ≤ e.tick) (h5 : e.tick ≤ 1099511627776) (hk : e.kind = 12) :
    Calls Tryd.prog 42 #[.agg #[.string e.src, .int .i64 e.num, .int .i64 e.tick, .int .i64 e.kind, .string e.person, .string e.item, .int .i64 e.value, .string e.text]] w fun r w' => r = .returned (.bool (tailE e)) ∧ Ext w w' := by
  have hp1 := sm_max hsm.src
  have hp2 := sm_max hsm.person
  have hp3 := sm_max hsm.item
  have hp4 := sm_max hsm.text
  have hp5 : e.text.size ≤ 1000000 := by have := hsm.text; omega
  have Hf := Lib.hid (tail_e hk)
  clear hsm
  rw [hk]
  clear hk
  go_enter Tryd.func42, Tryd.ntmps42
  go_wp2_with (first | (go_at_call 36; with_reducible refine (ref_Name e.src _ hp1).mono ?_; rw [h1]; rintro _ w' ⟨rfl, rfl⟩) | (go_at_call 54; refine (ref_In _ _ _ _).mono ?_; rintro _ w' ⟨rfl, rfl⟩))
  go_quiet (fail)
  go_wp2_with (first | (go_at_call 36; with_reducible refine (ref_Name e.item _ hp3).mono ?_; rintro _ w' ⟨rfl, rfl⟩) | (go_at_call 54; refine (ref_In _ _ _ _).mono ?_; rintro _ w' ⟨rfl, rfl⟩))
  all_goals
    go_ret
    refine ⟨?_, ?_⟩
    · rw [Hf.out]; first | (simp [*, noneB]; done) | (simp [*, noneB]; rfl) | (simp [*, noneB]; intros; omega)
    · exact ((Keeps.refl (fun _ => True) w).alloc _).drewN _
set_option maxRecDepth 100000 in
set_option maxHeartbeats 8000000 in
theorem ref_May_f (e : Ev) (w : World) (hsm : EvSm e) (h1 : nameB e.src = true) (h2 : 1 ≤ e.num) (h3 : e.num ≤ 1099511627776) (h4 : 0 ≤ e.tick) (h5 : e.tick ≤ 1099511627776) (hk : e.kind = 13) :
    Calls Tryd.prog 42 #[.agg #[.string e.src, .int .i64 e.num, .int .i64 e.tick, .int .i64 e.kind, .string e.person, .string e.item, .int .i64 e.value, .string e.text]] w fun r w' => r = .returned (.bool (tailE e)) ∧ Ext w w' := by
  have hp1 := sm_max hsm.src
  have hp2 := sm_max hsm.person
  have hp3 := sm_max hsm.item
  have hp4 := sm_max hsm.text
  have hp5 : e.text.size ≤ 1000000 := by have := hsm.text; omega
  have Hf := Lib.hid (tail_f hk)
  clear hsm
  rw [hk]
  clear hk
  go_enter Tryd.func42, Tryd.ntmps42
  go_wp2_with (first | (go_at_call 36; with_reducible refine (ref_Name e.src _ hp1).mono ?_; rw [h1]; rintro _ w' ⟨rfl, rfl⟩) | (go_at_call 54; refine (ref_In _ _ _ _).mono ?_; rintro _ w' ⟨rfl, rfl⟩))
  go_quiet (fail)
  go_wp2_with (first | (go_at_call 36; with_reducible refine (ref_Name e.item _ hp3).mono ?_; rintro _ w' ⟨rfl, rfl⟩))
  all_goals
    go_ret
    refine ⟨?_, ?_⟩
    · rw [Hf.out]; first | (simp [*, noneB]; done) | (simp [*, noneB]; rfl) | (simp [*, noneB]; intros; omega)
    · exact ((Keeps.refl (fun _ => True) w).alloc _).drewN _
set_option maxRecDepth 100000 in
set_option maxHeartbeats 8000000 in
theorem ref_May_g (e : Ev) (w : World) (hsm : EvSm e) (h1 : nameB e.src = true) (h2 : 1 ≤ e.num) (h3 : e.num ≤ 1099511627776) (h4 : 0 ≤ e.tick) (h5 : e.tick ≤ 1099511627776) (hk : e.kind = 14) :
    Calls Tryd.prog 42 #[.agg #[.string e.src, .int .i64 e.num, .int .i64 e.tick, .int .i64 e.kind, .string e.person, .string e.item, .int .i64 e.value, .string e.text]] w fun r w' => r = .returned (.bool (tailE e)) ∧ Ext w w' := by
  have hp1 := sm_max hsm.src
  have hp2 := sm_max hsm.person
  have hp3 := sm_max hsm.item
  have hp4 := sm_max hsm.text
  have hp5 : e.text.size ≤ 1000000 := by have := hsm.text; omega
  have Hf := Lib.hid (tail_g hk)
  clear hsm
  rw [hk]
  clear hk
  go_enter Tryd.func42, Tryd.ntmps42
  go_wp2_with (first | (go_at_call 36; with_reducible refine (ref_Name e.src _ hp1).mono ?_; rw [h1]; rintro _ w' ⟨rfl, rfl⟩) | (go_at_call 54; refine (ref_In _ _ _ _).mono ?_; rintro _ w' ⟨rfl, rfl⟩))
  go_quiet (fail)
  go_wp2_with (first | (go_at_call 36; with_reducible refine (ref_Name e.person _ hp2).mono ?_; rintro _ w' ⟨rfl, rfl⟩))
  all_goals
    go_ret
    refine ⟨?_, ?_⟩
    · rw [Hf.out]; first | (simp [*, noneB]; done) | (simp [*, noneB]; rfl) | (simp [*, noneB]; intros; omega)
    · exact ((Keeps.refl (fun _ => True) w).alloc _).drewN _
set_option maxRecDepth 100000 in
set_option maxHeartbeats 8000000 in
theorem ref_May_h (e : Ev) (w : World) (hsm : EvSm e) (h1 : nameB e.src = true) (h2 : 1 ≤ e.num) (h3 : e.num ≤ 1099511627776) (h4 : 0 ≤ e.tick) (h5 : e.tick ≤ 1099511627776) (hk : e.kind < 0 ∨ 14 < e.kind) :
    Calls Tryd.prog 42 #[.agg #[.string e.src, .int .i64 e.num, .int .i64 e.tick, .int .i64 e.kind, .string e.person, .string e.item, .int .i64 e.value, .string e.text]] w fun r w' => r = .returned (.bool (tailE e)) ∧ Ext w w' := by
  have hp1 := sm_max hsm.src
  have hp2 := sm_max hsm.person
  have hp3 := sm_max hsm.item
  have hp4 := sm_max hsm.text
  have hp5 : e.text.size ≤ 1000000 := by have := hsm.text; omega
  have Hf := Lib.hid (tail_h hk)
  clear hsm
  have k0 : (e.kind == 0) = false := by rw [beq_eq_false_iff_ne]; omega
  have k1 : (e.kind == 1) = false := by rw [beq_eq_false_iff_ne]; omega
  have k2 : (e.kind == 2) = false := by rw [beq_eq_false_iff_ne]; omega
  have k3 : (e.kind == 3) = false := by rw [beq_eq_false_iff_ne]; omega
  have k4 : (e.kind == 4) = false := by rw [beq_eq_false_iff_ne]; omega
  have k5 : (e.kind == 5) = false := by rw [beq_eq_false_iff_ne]; omega
  have k6 : (e.kind == 6) = false := by rw [beq_eq_false_iff_ne]; omega
  have k7 : (e.kind == 7) = false := by rw [beq_eq_false_iff_ne]; omega
  have k8 : (e.kind == 8) = false := by rw [beq_eq_false_iff_ne]; omega
  have k9 : (e.kind == 9) = false := by rw [beq_eq_false_iff_ne]; omega
  have k10 : (e.kind == 10) = false := by rw [beq_eq_false_iff_ne]; omega
  have k11 : (e.kind == 11) = false := by rw [beq_eq_false_iff_ne]; omega
  have k12 : (e.kind == 12) = false := by rw [beq_eq_false_iff_ne]; omega
  have k13 : (e.kind == 13) = false := by rw [beq_eq_false_iff_ne]; omega
  have k14 : (e.kind == 14) = false := by rw [beq_eq_false_iff_ne]; omega
  clear hk
  go_enter Tryd.func42, Tryd.ntmps42
  go_wp2_with (first | (go_at_call 36; with_reducible refine (ref_Name e.src _ hp1).mono ?_; rw [h1]; rintro _ w' ⟨rfl, rfl⟩) | (go_at_call 54; refine (ref_In _ _ _ _).mono ?_; rintro _ w' ⟨rfl, rfl⟩))
  go_quiet (fail)
  go_wp2_with (first | fail)
  all_goals
    go_ret
    refine ⟨?_, ?_⟩
    · rw [Hf.out]; rfl
    · exact ((Keeps.refl (fun _ => True) w).alloc _).drewN _
set_option maxRecDepth 100000 in
set_option maxHeartbeats 4000000 in
theorem ref_May_no (e : Ev) (w : World) (hsm : EvSm e) (h : nameB e.src = false ∨ e.num < 1 ∨ 1099511627776 < e.num ∨ e.tick < 0 ∨ 1099511627776 < e.tick) :
    Calls Tryd.prog 42 #[.agg #[.string e.src, .int .i64 e.num, .int .i64 e.tick, .int .i64 e.kind, .string e.person, .string e.item, .int .i64 e.value, .string e.text]] w fun r w' => r = .returned (.bool false) ∧ Ext w w' := by
  have hp1 := sm_max hsm.src
  clear hsm
  cases h1 : nameB e.src
  · clear h
    go_enter Tryd.func42, Tryd.ntmps42
    go_wp2_with (first | (go_at_call 36; with_reducible refine (ref_Name e.src _ hp1).mono ?_; rw [h1]; rintro _ w' ⟨rfl, rfl⟩) | (go_at_call 54; refine (ref_In _ _ _ _).mono ?_; rintro _ w' ⟨rfl, rfl⟩))
    go_ret
    exact ⟨rfl, (Keeps.refl (fun _ => True) w).alloc _⟩
  have h' : e.num < 1 ∨ 1099511627776 < e.num ∨ e.tick < 0 ∨ 1099511627776 < e.tick := by
    rcases h with h | h
    · rw [h1] at h; cases h
    · exact h
  clear h
  by_cases a1 : e.num < 1
  · have b1 : decide (1 ≤ e.num) = false := decide_eq_false (by omega)
    clear h'
    go_enter Tryd.func42, Tryd.ntmps42
    go_wp2_with (first | (go_at_call 36; with_reducible refine (ref_Name e.src _ hp1).mono ?_; rw [h1]; rintro _ w' ⟨rfl, rfl⟩) | (go_at_call 54; refine (ref_In _ _ _ _).mono ?_; rintro _ w' ⟨rfl, rfl⟩))
    go_ret
    exact ⟨rfl, (Keeps.refl (fun _ => True) w).alloc _⟩
  have b1 : decide (1 ≤ e.num) = true := decide_eq_true (by omega)
  by_cases a2 : 1099511627776 < e.num
  · have b2 : decide (e.num ≤ 1099511627776) = false := decide_eq_false (by omega)
    clear h'
    go_enter Tryd.func42, Tryd.ntmps42
    go_wp2_with (first | (go_at_call 36; with_reducible refine (ref_Name e.src _ hp1).mono ?_; rw [h1]; rintro _ w' ⟨rfl, rfl⟩) | (go_at_call 54; refine (ref_In _ _ _ _).mono ?_; rintro _ w' ⟨rfl, rfl⟩))
    go_ret
    exact ⟨rfl, (Keeps.refl (fun _ => True) w).alloc _⟩
  have b2 : decide (e.num ≤ 1099511627776) = true := decide_eq_true (by omega)
  by_cases a3 : e.tick < 0
  · have b3 : decide (0 ≤ e.tick) = false := decide_eq_false (by omega)
    clear h'
    go_enter Tryd.func42, Tryd.ntmps42
    go_wp2_with (first | (go_at_call 36; with_reducible refine (ref_Name e.src _ hp1).mono ?_; rw [h1]; rintro _ w' ⟨rfl, rfl⟩) | (go_at_call 54; refine (ref_In _ _ _ _).mono ?_; rintro _ w' ⟨rfl, rfl⟩))
    go_ret
    exact ⟨rfl, (Keeps.refl (fun _ => True) w).alloc _⟩
  have a4 : 1099511627776 < e.tick := by omega
  have b3 : decide (e.tick ≤ 1099511627776) = false := decide_eq_false (by omega)
  have b4 : decide (0 ≤ e.tick) = true := decide_eq_true (by omega)
  clear h'
  go_enter Tryd.func42, Tryd.ntmps42
  go_wp2_with (first | (go_at_call 36; with_reducible refine (ref_Name e.src _ hp1).mono ?_; rw [h1]; rintro _ w' ⟨rfl, rfl⟩) | (go_at_call 54; refine (ref_In _ _ _ _).mono ?_; rintro _ w' ⟨rfl, rfl⟩))
  go_ret
  exact ⟨rfl, (Keeps.refl (fun _ => True) w).alloc _⟩

theorem ref_May (e : Ev) (w : World) (hsm : EvSm e) :
    Calls Tryd.prog 42 #[.agg #[.string e.src, .int .i64 e.num, .int .i64 e.tick, .int .i64 e.kind, .string e.person, .string e.item, .int .i64 e.value, .string e.text]] w fun r w' => r = .returned (.bool (mayE e)) ∧ Ext w w' := by
  cases h1 : nameB e.src
  · rw [may_no1 h1]; exact ref_May_no e w hsm (.inl h1)
  by_cases h : e.num < 1 ∨ 1099511627776 < e.num ∨ e.tick < 0 ∨ 1099511627776 < e.tick
  · rw [may_no2 h]; exact ref_May_no e w hsm (.inr h)
  have a1 : 1 ≤ e.num := by omega
  have a2 : e.num ≤ 1099511627776 := by omega
  have a3 : 0 ≤ e.tick := by omega
  have a4 : e.tick ≤ 1099511627776 := by omega
  rw [may_head h1 a1 a2 a3 a4]
  by_cases ka : e.kind = 0 ∨ e.kind = 1 ∨ e.kind = 2 ∨ e.kind = 3 ∨ e.kind = 5 ∨ e.kind = 6
  · exact ref_May_a e w hsm h1 a1 a2 a3 a4 ka
  by_cases kb : e.kind = 4
  · exact ref_May_b e w hsm h1 a1 a2 a3 a4 kb
  by_cases kc : e.kind = 7 ∨ e.kind = 8 ∨ e.kind = 9 ∨ e.kind = 10
  · exact ref_May_c e w hsm h1 a1 a2 a3 a4 kc
  by_cases kd : e.kind = 11
  · exact ref_May_d e w hsm h1 a1 a2 a3 a4 kd
  by_cases ke : e.kind = 12
  · exact ref_May_e e w hsm h1 a1 a2 a3 a4 ke
  by_cases kf : e.kind = 13
  · exact ref_May_f e w hsm h1 a1 a2 a3 a4 kf
  by_cases kg : e.kind = 14
  · exact ref_May_g e w hsm h1 a1 a2 a3 a4 kg
  exact ref_May_h e w hsm h1 a1 a2 a3 a4 (by omega)
end Go.Proofs.YtdkgphambjnbiaaDoor
