/-
  What is proved here: whether an event may be, the program's way, is mayE. Conditions: texts of at most a million bytes; the library's own variable holds some number.
  whether an event may be, the document's way, is mayE. Conditions: texts of at most a million bytes.
  what holds of an event that may be, part by part; how long its texts are. No program is in sight. No condition.
-/
import Derived.Test.YtpkkkhgmkndpdaaGreatDoorEvLst
namespace Go.Proofs.YtpkkkhgmkndpdaaGreatDoor
open Go Go.RowKit Go.Proofs
attribute [local go_sem ↓] Go.wp_at_zero Go.wp_at_succ

/-- An event of short texts. -/
structure EvSm (e : Ev) : Prop where
  src : e.src.size ≤ 999999
  person : e.person.size ≤ 999999
  item : e.item.size ≤ 999999
  text : e.text.size ≤ 999999
theorem sm_max {n : Nat} (h : n ≤ 999999) : n ≤ maxLen := by unfold maxLen; omega




theorem tail_a {e : Ev} (h : e.kind = 0 ∨ e.kind = 1 ∨ e.kind = 2 ∨ e.kind = 3 ∨ e.kind = 5 ∨ e.kind = 6) : tailE e = (nameB e.person && nameB e.item && decide (e.value = 0) && noneB e.text) := by
  unfold tailE
  rw [if_pos (by omega)]
theorem tail_b {e : Ev} (h : e.kind = 4) : tailE e = (nameB e.person && nameB e.item && decide (1 ≤ e.value) && decide (e.value ≤ 5) && noneB e.text) := by
  unfold tailE
  rw [if_neg (by omega), if_pos (by omega)]
theorem tail_c {e : Ev} (h : e.kind = 7 ∨ e.kind = 8 ∨ e.kind = 9 ∨ e.kind = 10) : tailE e = (nameB e.person && noneB e.item && decide (e.value = 0) && nameB e.text) := by
  unfold tailE
  rw [if_neg (by omega), if_neg (by omega), if_pos (by omega)]
theorem tail_d {e : Ev} (h : e.kind = 11) : tailE e = (noneB e.person && nameB e.item && decide (0 ≤ e.value) && decide (e.value ≤ 1048576) && labelB e.text) := by
  unfold tailE
  rw [if_neg (by omega), if_neg (by omega), if_neg (by omega), if_pos (by omega)]
theorem tail_e {e : Ev} (h : e.kind = 12) : tailE e = (noneB e.person && nameB e.item && decide (0 ≤ e.value) && decide (e.value ≤ 1048576) && noneB e.text) := by
  unfold tailE
  rw [if_neg (by omega), if_neg (by omega), if_neg (by omega), if_neg (by omega), if_pos (by omega)]
theorem tail_f {e : Ev} (h : e.kind = 13) : tailE e = (noneB e.person && nameB e.item && decide (e.value = 0) && noneB e.text) := by
  unfold tailE
  rw [if_neg (by omega), if_neg (by omega), if_neg (by omega), if_neg (by omega), if_neg (by omega), if_pos (by omega)]
theorem tail_g {e : Ev} (h : e.kind = 14) : tailE e = (nameB e.person && noneB e.item && decide (e.value = 0) && noneB e.text) := by
  unfold tailE
  rw [if_neg (by omega), if_neg (by omega), if_neg (by omega), if_neg (by omega), if_neg (by omega), if_neg (by omega), if_pos (by omega)]
theorem tail_h {e : Ev} (h : e.kind < 0 ∨ 14 < e.kind) : tailE e = false := by
  unfold tailE
  rw [if_neg (by omega), if_neg (by omega), if_neg (by omega), if_neg (by omega), if_neg (by omega), if_neg (by omega), if_neg (by omega)]
set_option maxRecDepth 100000 in
set_option maxHeartbeats 8000000 in
theorem ev_May_a (e : Ev) (w : World) (hsm : EvSm e) (hm : Mx w) (h1 : nameB e.src = true) (h2 : 1 ≤ e.num) (h3 : e.num ≤ 1099511627776) (h4 : 0 ≤ e.tick) (h5 : e.tick ≤ 1099511627776) (hk : e.kind = 0 ∨ e.kind = 1 ∨ e.kind = 2 ∨ e.kind = 3 ∨ e.kind = 5 ∨ e.kind = 6) :
    Calls Tryz.prog 22 #[.agg #[.string e.src, .int .i64 e.num, .int .i64 e.tick, .int .i64 e.kind, .string e.person, .string e.item, .int .i64 e.value, .string e.text]] w fun r w' => r = .returned (.bool (tailE e)) ∧ Ext w w' := by
  have hp1 := sm_max hsm.src
  have hp2 := sm_max hsm.person
  have hp3 := sm_max hsm.item
  have hp4 := sm_max hsm.text
  have hp5 := hsm.text
  have Hm := Lib.hid hm
  have Hf := Lib.hid (tail_a hk)
  clear hm hsm
  rcases hk with hk | hk | hk | hk | hk | hk
  all_goals
    rw [hk]
    clear hk
    go_enter Tryz.func22, Tryz.ntmps22
    go_wp2_with (go_at_call 44; refine (event_Name _ _ hp1).mono ?_; rw [h1]; rintro _ w' ⟨rfl, rfl⟩)
    go_quiet ((first | (go_at_call 44; with_reducible exact Calls.quiet_of_same ((event_Name e.person _ hp2).mono fun _ _ ⟨h1, h2⟩ => ⟨h1, h2.symm⟩)) | (go_at_call 44; with_reducible exact Calls.quiet_of_same ((event_Name e.item _ hp3).mono fun _ _ ⟨h1, h2⟩ => ⟨h1, h2.symm⟩))))
    go_wp2_with fail
    all_goals
      go_ret
      refine ⟨?_, ?_⟩
      · rw [Hf.out]; first | (simp [*, noneB]; done) | (simp [*, noneB]; intros; omega)
      · exact ((Keeps.refl (fun _ => True) w).alloc _).drewN _
set_option maxRecDepth 100000 in
set_option maxHeartbeats 8000000 in
theorem ev_May_b (e : Ev) (w : World) (hsm : EvSm e) (hm : Mx w) (h1 : nameB e.src = true) (h2 : 1 ≤ e.num) (h3 : e.num ≤ 1099511627776) (h4 : 0 ≤ e.tick) (h5 : e.tick ≤ 1099511627776) (hk : e.kind = 4) :
    Calls Tryz.prog 22 #[.agg #[.string e.src, .int .i64 e.num, .int .i64 e.tick, .int .i64 e.kind, .string e.person, .string e.item, .int .i64 e.value, .string e.text]] w fun r w' => r = .returned (.bool (tailE e)) ∧ Ext w w' := by
  have hp1 := sm_max hsm.src
  have hp2 := sm_max hsm.person
  have hp3 := sm_max hsm.item
  have hp4 := sm_max hsm.text
  have hp5 := hsm.text
  have Hm := Lib.hid hm
  have Hf := Lib.hid (tail_b hk)
  clear hm hsm
  rw [hk]
  clear hk
  go_enter Tryz.func22, Tryz.ntmps22
  go_wp2_with (go_at_call 44; refine (event_Name _ _ hp1).mono ?_; rw [h1]; rintro _ w' ⟨rfl, rfl⟩)
  go_quiet ((first | (go_at_call 44; with_reducible exact Calls.quiet_of_same ((event_Name e.person _ hp2).mono fun _ _ ⟨h1, h2⟩ => ⟨h1, h2.symm⟩)) | (go_at_call 44; with_reducible exact Calls.quiet_of_same ((event_Name e.item _ hp3).mono fun _ _ ⟨h1, h2⟩ => ⟨h1, h2.symm⟩))))
  go_wp2_with fail
  all_goals
    go_ret
    refine ⟨?_, ?_⟩
    · rw [Hf.out]; first | (simp [*, noneB]; done) | (simp [*, noneB]; intros; omega)
    · exact ((Keeps.refl (fun _ => True) w).alloc _).drewN _
set_option maxRecDepth 100000 in
set_option maxHeartbeats 8000000 in
theorem ev_May_c (e : Ev) (w : World) (hsm : EvSm e) (hm : Mx w) (h1 : nameB e.src = true) (h2 : 1 ≤ e.num) (h3 : e.num ≤ 1099511627776) (h4 : 0 ≤ e.tick) (h5 : e.tick ≤ 1099511627776) (hk : e.kind = 7 ∨ e.kind = 8 ∨ e.kind = 9 ∨ e.kind = 10) :
    Calls Tryz.prog 22 #[.agg #[.string e.src, .int .i64 e.num, .int .i64 e.tick, .int .i64 e.kind, .string e.person, .string e.item, .int .i64 e.value, .string e.text]] w fun r w' => r = .returned (.bool (tailE e)) ∧ Ext w w' := by
  have hp1 := sm_max hsm.src
  have hp2 := sm_max hsm.person
  have hp3 := sm_max hsm.item
  have hp4 := sm_max hsm.text
  have hp5 := hsm.text
  have Hm := Lib.hid hm
  have Hf := Lib.hid (tail_c hk)
  clear hm hsm
  rcases hk with hk | hk | hk | hk
  all_goals
    rw [hk]
    clear hk
    go_enter Tryz.func22, Tryz.ntmps22
    go_wp2_with (go_at_call 44; refine (event_Name _ _ hp1).mono ?_; rw [h1]; rintro _ w' ⟨rfl, rfl⟩)
    go_quiet ((first | (go_at_call 44; with_reducible exact Calls.quiet_of_same ((event_Name e.person _ hp2).mono fun _ _ ⟨h1, h2⟩ => ⟨h1, h2.symm⟩)) | (go_at_call 44; with_reducible exact Calls.quiet_of_same ((event_Name e.item _ hp3).mono fun _ _ ⟨h1, h2⟩ => ⟨h1, h2.symm⟩))))
    go_wp2_with (go_at_call 44; refine (event_Name e.text _ hp4).mono ?_; rintro _ w' ⟨rfl, rfl⟩)
    all_goals
      go_ret
      refine ⟨?_, ?_⟩
      · rw [Hf.out]; first | (simp [*, noneB]; done) | (simp [*, noneB]; intros; omega)
      · exact ((Keeps.refl (fun _ => True) w).alloc _).drewN _
set_option maxRecDepth 100000 in
set_option maxHeartbeats 8000000 in
theorem ev_May_d (e : Ev) (w : World) (hsm : EvSm e) (hm : Mx w) (h1 : nameB e.src = true) (h2 : 1 ≤ e.num) (h3 : e.num ≤ 1099511627776) (h4 : 0 ≤ e.tick) (h5 : e.tick ≤ 1099511627776) (hk : e.kind = 11) :
    Calls Tryz.prog 22 #[.agg #[.string e.src, .int .i64 e.num, .int .i64 e.tick, .int .i64 e.kind, .string e.person, .string e.item, .int .i64 e.value, .string e.text]] w fun r w' => r = .returned (.bool (tailE e)) ∧ Ext w w' := by
  have hp1 := sm_max hsm.src
  have hp2 := sm_max hsm.person
  have hp3 := sm_max hsm.item
  have hp4 := sm_max hsm.text
  have hp5 := hsm.text
  have Hm := Lib.hid hm
  have Hf := Lib.hid (tail_d hk)
  clear hm hsm
  rw [hk]
  clear hk
  go_enter Tryz.func22, Tryz.ntmps22
  go_wp2_with (go_at_call 44; refine (event_Name _ _ hp1).mono ?_; rw [h1]; rintro _ w' ⟨rfl, rfl⟩)
  go_quiet ((first | (go_at_call 44; with_reducible exact Calls.quiet_of_same ((event_Name e.person _ hp2).mono fun _ _ ⟨h1, h2⟩ => ⟨h1, h2.symm⟩)) | (go_at_call 44; with_reducible exact Calls.quiet_of_same ((event_Name e.item _ hp3).mono fun _ _ ⟨h1, h2⟩ => ⟨h1, h2.symm⟩))))
  go_wp2_with (go_at_call 45; refine (ev_listing e.text _ hp5 (Hm.out.ext (((Keeps.refl (fun _ => True) w).alloc _).drewN _))).mono ?_; rintro _ w' ⟨rfl, hx⟩; have Hx := Lib.hid (Keeps.trans (((Keeps.refl (fun _ => True) w).alloc _).drewN _) hx); clear hx)
  all_goals
    go_ret
    refine ⟨?_, ?_⟩
    · rw [Hf.out]; first | (simp [*, noneB]; done) | (simp [*, noneB]; intros; omega)
    · first | exact ((Keeps.refl (fun _ => True) w).alloc _).drewN _ | exact Hx.out
set_option maxRecDepth 100000 in
set_option maxHeartbeats 8000000 in
theorem ev_May_e (e : Ev) (w : World) (hsm : EvSm e) (hm : Mx w) (h1 : nameB e.src = true) (h2 : 1 ≤ e.num) (h3 : e.num ≤ 1099511627776) (h4 : 0 ≤ e.tick) (h5 : e.tick ≤ 1099511627776) (hk : e.kind = 12) :
    Calls Tryz.prog 22 #[.agg #[.string e.src, .int .i64 e.num, .int .i64 e.tick, .int .i64 e.kind, .string e.person, .string e.item, .int .i64 e.value, .string e.text]] w fun r w' => r = .returned (.bool (tailE e)) ∧ Ext w w' := by
  have hp1 := sm_max hsm.src
  have hp2 := sm_max hsm.person
  have hp3 := sm_max hsm.item
  have hp4 := sm_max hsm.text
  have hp5 := hsm.text
  have Hm := Lib.hid hm
  have Hf := Lib.hid (tail_e hk)
  clear hm hsm
  rw [hk]
  clear hk
  go_enter Tryz.func22, Tryz.ntmps22
  go_wp2_with (go_at_call 44; refine (event_Name _ _ hp1).mono ?_; rw [h1]; rintro _ w' ⟨rfl, rfl⟩)
  go_quiet ((first | (go_at_call 44; with_reducible exact Calls.quiet_of_same ((event_Name e.person _ hp2).mono fun _ _ ⟨h1, h2⟩ => ⟨h1, h2.symm⟩)) | (go_at_call 44; with_reducible exact Calls.quiet_of_same ((event_Name e.item _ hp3).mono fun _ _ ⟨h1, h2⟩ => ⟨h1, h2.symm⟩))))
  go_wp2_with fail
  all_goals
    go_ret
    refine ⟨?_, ?_⟩
    · rw [Hf.out]; first | (simp [*, noneB]; done) | (simp [*, noneB]; intros; omega)
    · exact ((Keeps.refl (fun _ => True) w).alloc _).drewN _
set_option maxRecDepth 100000 in
set_option maxHeartbeats 8000000 in
theorem ev_May_f (e : Ev) (w : World) (hsm : EvSm e) (hm : Mx w) (h1 : nameB e.src = true) (h2 : 1 ≤ e.num) (h3 : e.num ≤ 1099511627776) (h4 : 0 ≤ e.tick) (h5 : e.tick ≤ 1099511627776) (hk : e.kind = 13) :
    Calls Tryz.prog 22 #[.agg #[.string e.src, .int .i64 e.num, .int .i64 e.tick, .int .i64 e.kind, .string e.person, .string e.item, .int .i64 e.value, .string e.text]] w fun r w' => r = .returned (.bool (tailE e)) ∧ Ext w w' := by
  have hp1 := sm_max hsm.src
  have hp2 := sm_max hsm.person
  have hp3 := sm_max hsm.item
  have hp4 := sm_max hsm.text
  have hp5 := hsm.text
  have Hm := Lib.hid hm
  have Hf := Lib.hid (tail_f hk)
  clear hm hsm
  rw [hk]
  clear hk
  go_enter Tryz.func22, Tryz.ntmps22
  go_wp2_with (go_at_call 44; refine (event_Name _ _ hp1).mono ?_; rw [h1]; rintro _ w' ⟨rfl, rfl⟩)
  go_quiet ((first | (go_at_call 44; with_reducible exact Calls.quiet_of_same ((event_Name e.person _ hp2).mono fun _ _ ⟨h1, h2⟩ => ⟨h1, h2.symm⟩)) | (go_at_call 44; with_reducible exact Calls.quiet_of_same ((event_Name e.item _ hp3).mono fun _ _ ⟨h1, h2⟩ => ⟨h1, h2.symm⟩))))
  go_wp2_with fail
  all_goals
    go_ret
    refine ⟨?_, ?_⟩
    · rw [Hf.out]; first | (simp [*, noneB]; done) | (simp [*, noneB]; intros; omega)
    · exact ((Keeps.refl (fun _ => True) w).alloc _).drewN _
set_option maxRecDepth 100000 in
set_option maxHeartbeats 8000000 in
theorem ev_May_g (e : Ev) (w : World) (hsm : EvSm e) (hm : Mx w) (h1 : nameB e.src = true) (h2 : 1 ≤ e.num) (h3 : e.num ≤ 1099511627776) (h4 : 0 ≤ e.tick) (h5 : e.tick ≤ 1099511627776) (hk : e.kind = 14) :
    Calls Tryz.prog 22 #[.agg #[.string e.src, .int .i64 e.num, .int .i64 e.tick, .int .i64 e.kind, .string e.person, .string e.item, .int .i64 e.value, .string e.text]] w fun r w' => r = .returned (.bool (tailE e)) ∧ Ext w w' := by
  have hp1 := sm_max hsm.src
  have hp2 := sm_max hsm.person
  have hp3 := sm_max hsm.item
  have hp4 := sm_max hsm.text
  have hp5 := hsm.text
  have Hm := Lib.hid hm
  have Hf := Lib.hid (tail_g hk)
  clear hm hsm
  rw [hk]
  clear hk
  go_enter Tryz.func22, Tryz.ntmps22
  go_wp2_with (go_at_call 44; refine (event_Name _ _ hp1).mono ?_; rw [h1]; rintro _ w' ⟨rfl, rfl⟩)
  go_quiet ((first | (go_at_call 44; with_reducible exact Calls.quiet_of_same ((event_Name e.person _ hp2).mono fun _ _ ⟨h1, h2⟩ => ⟨h1, h2.symm⟩)) | (go_at_call 44; with_reducible exact Calls.quiet_of_same ((event_Name e.item _ hp3).mono fun _ _ ⟨h1, h2⟩ => ⟨h1, h2.symm⟩))))
  go_wp2_with fail
  all_goals
    go_ret
    refine ⟨?_, ?_⟩
    · rw [Hf.out]; first | (simp [*, noneB]; done) | (simp [*, noneB]; intros; omega)
    · exact ((Keeps.refl (fun _ => True) w).alloc _).drewN _
set_option maxRecDepth 100000 in
set_option maxHeartbeats 8000000 in
theorem ev_May_h (e : Ev) (w : World) (hsm : EvSm e) (hm : Mx w) (h1 : nameB e.src = true) (h2 : 1 ≤ e.num) (h3 : e.num ≤ 1099511627776) (h4 : 0 ≤ e.tick) (h5 : e.tick ≤ 1099511627776) (hk : e.kind < 0 ∨ 14 < e.kind) :
    Calls Tryz.prog 22 #[.agg #[.string e.src, .int .i64 e.num, .int .i64 e.tick, .int .i64 e.kind, .string e.person, .string e.item, .int .i64 e.value, .string e.text]] w fun r w' => r = .returned (.bool (tailE e)) ∧ Ext w w' := by
  have hp1 := sm_max hsm.src
  have hp2 := sm_max hsm.person
  have hp3 := sm_max hsm.item
  have hp4 := sm_max hsm.text
  have hp5 := hsm.text
  have Hm := Lib.hid hm
  have Hf := Lib.hid (tail_h hk)
  clear hm hsm
  have k0 : (e.kind == 0) = false := by rw [beq_eq_false_iff_ne]; omega
  have k1 : (e.kind == 1) = false := by rw [beq_eq_false_iff_ne]; omega
  have k2 : (e.kind == 2) = false := by rw [beq_eq_false_iff_ne]; omega
  have k3 : (e.kind == 3) = false := by rw [beq_eq_false_iff_ne]; omega
  have k4 : (e.kind == 4) = false := by rw [beq_eq_false_iff_ne]; omega
  have k5 : (e.kind == 5) = false := by rw [beq_eq_false_iff_ne]; omega
  have k6 : (e.kind == 6) = false := by rw [beq_eq_false_iff_ne]; omega
  have k7 : (e.kind == 7) = false := by rw [beq_eq_false_iff_ne]; omega
  have k8 : (e.kind == 8) = false := by rw [beq_eq_false_iff_ne]; omega
  have k9 : (e.kind == 9) = false := by rw [beq_eq_false_iff_ne]; omega
  have k10 : (e.kind == 10) = false := by rw [beq_eq_false_iff_ne]; omega
  have k11 : (e.kind == 11) = false := by rw [beq_eq_false_iff_ne]; omega
  have k12 : (e.kind == 12) = false := by rw [beq_eq_false_iff_ne]; omega
  have k13 : (e.kind == 13) = false := by rw [beq_eq_false_iff_ne]; omega
  have k14 : (e.kind == 14) = false := by rw [beq_eq_false_iff_ne]; omega
  clear hk
  go_enter Tryz.func22, Tryz.ntmps22
  go_wp2_with (go_at_call 44; refine (event_Name _ _ hp1).mono ?_; rw [h1]; rintro _ w' ⟨rfl, rfl⟩)
  go_quiet ((first | (go_at_call 44; with_reducible exact Calls.quiet_of_same ((event_Name e.person _ hp2).mono fun _ _ ⟨h1, h2⟩ => ⟨h1, h2.symm⟩)) | (go_at_call 44; with_reducible exact Calls.quiet_of_same ((event_Name e.item _ hp3).mono fun _ _ ⟨h1, h2⟩ => ⟨h1, h2.symm⟩))))
  go_wp2_with fail
  all_goals
    go_ret
    refine ⟨?_, ?_⟩
    · rw [Hf.out]; rfl
    · exact ((Keeps.refl (fun _ => True) w).alloc _).drewN _
theorem may_head {e : Ev} (h1 : nameB e.src = true) (h2 : 1 ≤ e.num) (h3 : e.num ≤ 1099511627776) (h4 : 0 ≤ e.tick) (h5 : e.tick ≤ 1099511627776) : mayE e = tailE e := by
  unfold mayE headE
  simp [h1, h2, h3, h4, h5]
theorem may_no1 {e : Ev} (h : nameB e.src = false) : mayE e = false := by simp [mayE, headE, h]
theorem may_no2 {e : Ev} (h : e.num < 1 ∨ 1099511627776 < e.num ∨ e.tick < 0 ∨ 1099511627776 < e.tick) : mayE e = false := by
  rw [Bool.eq_false_iff]; intro hm
  simp only [mayE, headE, Bool.and_eq_true, decide_eq_true_eq] at hm
  omega
set_option maxRecDepth 100000 in
set_option maxHeartbeats 4000000 in
theorem ev_May_no (e : Ev) (w : World) (hsm : EvSm e) (h : nameB e.src = false ∨ e.num < 1 ∨ 1099511627776 < e.num ∨ e.tick < 0 ∨ 1099511627776 < e.tick) :
    Calls Tryz.prog 22 #[.agg #[.string e.src, .int .i64 e.num, .int .i64 e.tick, .int .i64 e.kind, .string e.person, .string e.item, .int .i64 e.value, .string e.text]] w fun r w' => r = .returned (.bool false) ∧ Ext w w' := by
  have hp1 := sm_max hsm.src
  clear hsm
  cases h1 : nameB e.src
  · clear h
    go_enter Tryz.func22, Tryz.ntmps22
    go_wp2_with (go_at_call 44; refine (event_Name _ _ hp1).mono ?_; rw [h1]; rintro _ w' ⟨rfl, rfl⟩)
    go_ret
    exact ⟨rfl, (Keeps.refl (fun _ => True) w).alloc _⟩
  have h' : e.num < 1 ∨ 1099511627776 < e.num ∨ e.tick < 0 ∨ 1099511627776 < e.tick := by
    rcases h with h | h
    · rw [h1] at h; cases h
    · exact h
  clear h
  by_cases a1 : e.num < 1
  · clear h'
    go_enter Tryz.func22, Tryz.ntmps22
    go_wp2_with (go_at_call 44; refine (event_Name _ _ hp1).mono ?_; rw [h1]; rintro _ w' ⟨rfl, rfl⟩)
    go_ret
    exact ⟨rfl, (Keeps.refl (fun _ => True) w).alloc _⟩
  by_cases a2 : 1099511627776 < e.num
  · clear h'
    go_enter Tryz.func22, Tryz.ntmps22
    go_wp2_with (go_at_call 44; refine (event_Name _ _ hp1).mono ?_; rw [h1]; rintro _ w' ⟨rfl, rfl⟩)
    go_ret
    exact ⟨rfl, (Keeps.refl (fun _ => True) w).alloc _⟩
  by_cases a3 : e.tick < 0
  · clear h'
    go_enter Tryz.func22, Tryz.ntmps22
    go_wp2_with (go_at_call 44; refine (event_Name _ _ hp1).mono ?_; rw [h1]; rintro _ w' ⟨rfl, rfl⟩)
    go_ret
    exact ⟨rfl, (Keeps.refl (fun _ => True) w).alloc _⟩
  have a4 : 1099511627776 < e.tick := by omega
  clear h'
  go_enter Tryz.func22, Tryz.ntmps22
  go_wp2_with (go_at_call 44; refine (event_Name _ _ hp1).mono ?_; rw [h1]; rintro _ w' ⟨rfl, rfl⟩)
  go_ret
  exact ⟨rfl, (Keeps.refl (fun _ => True) w).alloc _⟩

theorem ev_May (e : Ev) (w : World) (hsm : EvSm e) (hm : Mx w) :
    Calls Tryz.prog 22 #[.agg #[.string e.src, .int .i64 e.num, .int .i64 e.tick, .int .i64 e.kind, .string e.person, .string e.item, .int .i64 e.value, .string e.text]] w fun r w' => r = .returned (.bool (mayE e)) ∧ Ext w w' := by
  cases h1 : nameB e.src
  · rw [may_no1 h1]; exact ev_May_no e w hsm (.inl h1)
  by_cases h : e.num < 1 ∨ 1099511627776 < e.num ∨ e.tick < 0 ∨ 1099511627776 < e.tick
  · rw [may_no2 h]; exact ev_May_no e w hsm (.inr h)
  have a1 : 1 ≤ e.num := by omega
  have a2 : e.num ≤ 1099511627776 := by omega
  have a3 : 0 ≤ e.tick := by omega
  have a4 : e.tick ≤ 1099511627776 := by omega
  rw [may_head h1 a1 a2 a3 a4]
  by_cases ka : e.kind = 0 ∨ e.kind = 1 ∨ e.kind = 2 ∨ e.kind = 3 ∨ e.kind = 5 ∨ e.kind = 6
  · exact ev_May_a e w hsm hm h1 a1 a2 a3 a4 ka
  by_cases kb : e.kind = 4
  · exact ev_May_b e w hsm hm h1 a1 a2 a3 a4 kb
  by_cases kc : e.kind = 7 ∨ e.kind = 8 ∨ e.kind = 9 ∨ e.kind = 10
  · exact ev_May_c e w hsm hm h1 a1 a2 a3 a4 kc
  by_cases kd : e.kind = 11
  · exact ev_May_d e w hsm hm h1 a1 a2 a3 a4 kd
  by_cases ke : e.kind = 12
  · exact ev_May_e e w hsm hm h1 a1 a2 a3 a4 ke
  by_cases kf : e.kind = 13
  · exact ev_May_f e w hsm hm h1 a1 a2 a3 a4 kf
  by_cases kg : e.kind = 14
  · exact ev_May_g e w hsm hm h1 a1 a2 a3 a4 kg
  exact ev_May_h e w hsm hm h1 a1 a2 a3 a4 (by omega)
end Go.Proofs.YtpkkkhgmkndpdaaGreatDoor
namespace Go.Proofs.YtpkkkhgmkndpdaaGreatDoor
open Go Go.RowKit Go.Proofs
attribute [local go_sem ↓] Go.wp_at_zero Go.wp_at_succ

set_option maxRecDepth 100000 in
set_option maxHeartbeats 8000000 in
theorem ref_May_a (e : Ev) (w : World) (hsm : EvSm e) (h1 : nameB e.src = true) (h2 : 1 ≤ e.num) (h3 : e.num ≤ 1099511627776) (h4 : 0 ≤ e.tick) (h5 : e.tick ≤ 1099511627776) (hk : e.kind = 0 ∨ e.kind = 1 ∨ e.kind = 2 ∨ e.kind = 3 ∨ e.kind = 5 ∨ e.kind = 6) :
    Calls Tryz.prog 16 #[.agg #[.string e.src, .int .i64 e.num, .int .i64 e.tick, .int .i64 e.kind, .string e.person, .string e.item, .int .i64 e.value, .string e.text]] w fun r w' => r = .returned (.bool (tailE e)) ∧ Ext w w' := by
  have hp1 := sm_max hsm.src
  have hp2 := sm_max hsm.person
  have hp3 := sm_max hsm.item
  have hp4 := sm_max hsm.text
  have hp5 : e.text.size ≤ 1000000 := by have := hsm.text; omega
  have Hf := Lib.hid (tail_a hk)
  clear hsm
  rcases hk with hk | hk | hk | hk | hk | hk
  all_goals
    rw [hk]
    clear hk
    go_enter Tryz.func16, Tryz.ntmps16
    go_wp2_with (first | (go_at_call 34; with_reducible refine (ref_Name e.src _ hp1).mono ?_; rw [h1]; rintro _ w' ⟨rfl, rfl⟩) | (go_at_call 35; refine (ref_In _ _ _ _).mono ?_; rintro _ w' ⟨rfl, rfl⟩))
    go_quiet (fail)
    go_wp2_with (first | (go_at_call 34; with_reducible refine (ref_Name e.person _ hp2).mono ?_; rintro _ w' ⟨rfl, rfl⟩) | (go_at_call 34; with_reducible refine (ref_Name e.item _ hp3).mono ?_; rintro _ w' ⟨rfl, rfl⟩))
    all_goals
      go_ret
      refine ⟨?_, ?_⟩
      · rw [Hf.out]; first | (simp [*, noneB]; done) | (simp [*, noneB]; rfl) | (simp [*, noneB]; intros; omega)
      · exact ((Keeps.refl (fun _ => True) w).alloc _).drewN _
set_option maxRecDepth 100000 in
set_option maxHeartbeats 8000000 in
theorem ref_May_b (e : Ev) (w : World) (hsm : EvSm e) (h1 : nameB e.src = true) (h2 : 1 ≤ e.num) (h3 : e.num ≤ 1099511627776) (h4 : 0 ≤ e.tick) (h5 : e.tick ≤ 1099511627776) (hk : e.kind = 4) :
    Calls Tryz.prog 16 #[.agg #[.string e.src, .int .i64 e.num, .int .i64 e.tick, .int .i64 e.kind, .string e.person, .string e.item, .int .i64 e.value, .string e.text]] w fun r w' => r = .returned (.bool (tailE e)) ∧ Ext w w' := by
  have hp1 := sm_max hsm.src
  have hp2 := sm_max hsm.person
  have hp3 := sm_max hsm.item
  have hp4 := sm_max hsm.text
  have hp5 : e.text.size ≤ 1000000 := by have := hsm.text; omega
  have Hf := Lib.hid (tail_b hk)
  clear hsm
  rw [hk]
  clear hk
  go_enter Tryz.func16, Tryz.ntmps16
  go_wp2_with (first | (go_at_call 34; with_reducible refine (ref_Name e.src _ hp1).mono ?_; rw [h1]; rintro _ w' ⟨rfl, rfl⟩) | (go_at_call 35; refine (ref_In _ _ _ _).mono ?_; rintro _ w' ⟨rfl, rfl⟩))
  go_quiet (fail)
  go_wp2_with (first | (go_at_call 34; with_reducible refine (ref_Name e.person _ hp2).mono ?_; rintro _ w' ⟨rfl, rfl⟩) | (go_at_call 34; with_reducible refine (ref_Name e.item _ hp3).mono ?_; rintro _ w' ⟨rfl, rfl⟩) | (go_at_call 35; refine (ref_In _ _ _ _).mono ?_; rintro _ w' ⟨rfl, rfl⟩))
  all_goals
    go_ret
    refine ⟨?_, ?_⟩
    · rw [Hf.out]; first | (simp [*, noneB]; done) | (simp [*, noneB]; rfl) | (simp [*, noneB]; intros; omega)
    · exact ((Keeps.refl (fun _ => True) w).alloc _).drewN _
set_option maxRecDepth 100000 in
set_option maxHeartbeats 8000000 in
theorem ref_May_c (e : Ev) (w : World) (hsm : EvSm e) (h1 : nameB e.src = true) (h2 : 1 ≤ e.num) (h3 : e.num ≤ 1099511627776) (h4 : 0 ≤ e.tick) (h5 : e.tick ≤ 1099511627776) (hk : e.kind = 7 ∨ e.kind = 8 ∨ e.kind = 9 ∨ e.kind = 10) :
    Calls Tryz.prog 16 #[.agg #[.string e.src, .int .i64 e.num, .int .i64 e.tick, .int .i64 e.kind, .string e.person, .string e.item, .int .i64 e.value, .string e.text]] w fun r w' => r = .returned (.bool (tailE e)) ∧ Ext w w' := by
  have hp1 := sm_max hsm.src
  have hp2 := sm_max hsm.person
  have hp3 := sm_max hsm.item
  have hp4 := sm_max hsm.text
  have hp5 : e.text.size ≤ 1000000 := by have := hsm.text; omega
  have Hf := Lib.hid (tail_c hk)
  clear hsm
  rcases hk with hk | hk | hk | hk
  all_goals
    rw [hk]
    clear hk
    go_enter Tryz.func16, Tryz.ntmps16
    go_wp2_with (first | (go_at_call 34; with_reducible refine (ref_Name e.src _ hp1).mono ?_; rw [h1]; rintro _ w' ⟨rfl, rfl⟩) | (go_at_call 35; refine (ref_In _ _ _ _).mono ?_; rintro _ w' ⟨rfl, rfl⟩))
    go_quiet (fail)
    go_wp2_with (first | (go_at_call 34; with_reducible refine (ref_Name e.person _ hp2).mono ?_; rintro _ w' ⟨rfl, rfl⟩) | (go_at_call 34; with_reducible refine (ref_Name e.text _ hp4).mono ?_; rintro _ w' ⟨rfl, rfl⟩))
    all_goals
      go_ret
      refine ⟨?_, ?_⟩
      · rw [Hf.out]; first | (simp [*, noneB]; done) | (simp [*, noneB]; rfl) | (simp [*, noneB]; intros; omega)
      · exact ((Keeps.refl (fun _ => True) w).alloc _).drewN _
set_option maxRecDepth 100000 in
set_option maxHeartbeats 8000000 in
theorem ref_May_d (e : Ev) (w : World) (hsm : EvSm e) (h1 : nameB e.src = true) (h2 : 1 ≤ e.num) (h3 : e.num ≤ 1099511627776) (h4 : 0 ≤ e.tick) (h5 : e.tick ≤ 1099511627776) (hk : e.kind = 11) :
    Calls Tryz.prog 16 #[.agg #[.string e.src, .int .i64 e.num, .int .i64 e.tick, .int .i64 e.kind, .string e.person, .string e.item, .int .i64 e.value, .string e.text]] w fun r w' => r = .returned (.bool (tailE e)) ∧ Ext w w' := by
  have hp1 := sm_max hsm.src
  have hp2 := sm_max hsm.person
  have hp3 := sm_max hsm.item
  have hp4 := sm_max hsm.text
  have hp5 : e.text.size ≤ 1000000 := by have := hsm.text; omega
  have Hf := Lib.hid (tail_d hk)
  clear hsm
  rw [hk]
  clear hk
  go_enter Tryz.func16, Tryz.ntmps16
  go_wp2_with (first | (go_at_call 34; with_reducible refine (ref_Name e.src _ hp1).mono ?_; rw [h1]; rintro _ w' ⟨rfl, rfl⟩) | (go_at_call 35; refine (ref_In _ _ _ _).mono ?_; rintro _ w' ⟨rfl, rfl⟩))
  go_quiet (fail)
  go_wp2_with (first | (go_at_call 34; with_reducible refine (ref_Name e.item _ hp3).mono ?_; rintro _ w' ⟨rfl, rfl⟩) | (go_at_call 35; refine (ref_In _ _ _ _).mono ?_; rintro _ w' ⟨rfl, rfl⟩) | (go_at_call 36; refine (ref_Label e.text _ hp5).mono ?_; rintro _ w' ⟨rfl, hx⟩; have Hx := Lib.hid (Keeps.trans (((Keeps.refl (fun _ => True) w).alloc _).drewN _) hx); clear hx))
  all_goals
    go_ret
    refine ⟨?_, ?_⟩
    · rw [Hf.out]; first | (simp [*, noneB]; done) | (simp [*, noneB]; rfl) | (simp [*, noneB]; intros; omega)
    · exact Hx.out
set_option maxRecDepth 100000 in
set_option maxHeartbeats 8000000 in
theorem ref_May_e (e : Ev) (w : World) (hsm : EvSm e) (h1 : nameB e.src = true) (h2 : 1 ≤ e.num) (h3 : e.num ≤ 1099511627776) (h4 : 0 ≤ e.tick) (h5 : e.tick ≤ 1099511627776) (hk : e.kind = 12) :
    Calls Tryz.prog 16 #[.agg #[.string e.src, .int .i64 e.num, .int .i64 e.tick, .int .i64 e.kind, .string e.person, .string e.item, .int .i64 e.value, .string e.text]] w fun r w' => r = .returned (.bool (tailE e)) ∧ Ext w w' := by
  have hp1 := sm_max hsm.src
  have hp2 := sm_max hsm.person
  have hp3 := sm_max hsm.item
  have hp4 := sm_max hsm.text
  have hp5 : e.text.size ≤ 1000000 := by have := hsm.text; omega
  have Hf := Lib.hid (tail_e hk)
  clear hsm
  rw [hk]
  clear hk
  go_enter Tryz.func16, Tryz.ntmps16
  go_wp2_with (first | (go_at_call 34; with_reducible refine (ref_Name e.src _ hp1).mono ?_; rw [h1]; rintro _ w' ⟨rfl, rfl⟩) | (go_at_call 35; refine (ref_In _ _ _ _).mono ?_; rintro _ w' ⟨rfl, rfl⟩))
  go_quiet (fail)
  go_wp2_with (first | (go_at_call 34; with_reducible refine (ref_Name e.item _ hp3).mono ?_; rintro _ w' ⟨rfl, rfl⟩) | (go_at_call 35; refine (ref_In _ _ _ _).mono ?_; rintro _ w' ⟨rfl, rfl⟩))
  all_goals
    go_ret
    refine ⟨?_, ?_⟩
    · rw [Hf.out]; first | (simp [*, noneB]; done) | (simp [*, noneB]; rfl) | (simp [*, noneB]; intros; omega)
    · exact ((Keeps.refl (fun _ => True) w).alloc _).drewN _
set_option maxRecDepth 100000 in
set_option maxHeartbeats 8000000 in
theorem ref_May_f (e : Ev) (w : World) (hsm : EvSm e) (h1 : nameB e.src = true) (h2 : 1 ≤ e.num) (h3 : e.num ≤ 1099511627776) (h4 : 0 ≤ e.tick) (h5 : e.tick ≤ 1099511627776) (hk : e.kind = 13) :
    Calls Tryz.prog 16 #[.agg #[.string e.src, .int .i64 e.num, .int .i64 e.tick, .int .i64 e.kind, .string e.person, .string e.item, .int .i64 e.value, .string e.text]] w fun r w' => r = .returned (.bool (tailE e)) ∧ Ext w w' := by
  have hp1 := sm_max hsm.src
  have hp2 := sm_max hsm.person
  have hp3 := sm_max hsm.item
  have hp4 := sm_max hsm.text
  have hp5 : e.text.size ≤ 1000000 := by have := hsm.text; omega
  have Hf := Lib.hid (tail_f hk)
  clear hsm
  rw [hk]
  clear hk
  go_enter Tryz.func16, Tryz.ntmps16
  go_wp2_with (first | (go_at_call 34; with_reducible refine (ref_Name e.src _ hp1).mono ?_; rw [h1]; rintro _ w' ⟨rfl, rfl⟩) | (go_at_call 35; refine (ref_In _ _ _ _).mono ?_; rintro _ w' ⟨rfl, rfl⟩))
  go_quiet (fail)
  go_wp2_with (first | (go_at_call 34; with_reducible refine (ref_Name e.item _ hp3).mono ?_; rintro _ w' ⟨rfl, rfl⟩))
  all_goals
    go_ret
    refine ⟨?_, ?_⟩
    · rw [Hf.out]; first | (simp [*, noneB]; done) | (simp [*, noneB]; rfl) | (simp [*, noneB]; intros; omega)
    · exact ((Keeps.refl (fun _ => True) w).alloc _).drewN _
set_option maxRecDepth 100000 in
set_option maxHeartbeats 8000000 in
theorem ref_May_g (e : Ev) (w : World) (hsm : EvSm e) (h1 : nameB e.src = true) (h2 : 1 ≤ e.num) (h3 : e.num ≤ 1099511627776) (h4 : 0 ≤ e.tick) (h5 : e.tick ≤ 1099511627776) (hk : e.kind = 14) :
    Calls Tryz.prog 16 #[.agg #[.string e.src, .int .i64 e.num, .int .i64 e.tick, .int .i64 e.kind, .string e.person, .string e.item, .int .i64 e.value, .string e.text]] w fun r w' => r = .returned (.bool (tailE e)) ∧ Ext w w' := by
  have hp1 := sm_max hsm.src
  have hp2 := sm_max hsm.person
  have hp3 := sm_max hsm.item
  have hp4 := sm_max hsm.text
  have hp5 : e.text.size ≤ 1000000 := by have := hsm.text; omega
  have Hf := Lib.hid (tail_g hk)
  clear hsm
  rw [hk]
  clear hk
  go_enter Tryz.func16, Tryz.ntmps16
  go_wp2_with (first | (go_at_call 34; with_reducible refine (ref_Name e.src _ hp1).mono ?_; rw [h1]; rintro _ w' ⟨rfl, rfl⟩) | (go_at_call 35; refine (ref_In _ _ _ _).mono ?_; rintro _ w' ⟨rfl, rfl⟩))
  go_quiet (fail)
  go_wp2_with (first | (go_at_call 34; with_reducible refine (ref_Name e.person _ hp2).mono ?_; rintro _ w' ⟨rfl, rfl⟩))
  all_goals
    go_ret
    refine ⟨?_, ?_⟩
    · rw [Hf.out]; first | (simp [*, noneB]; done) | (simp [*, noneB]; rfl) | (simp [*, noneB]; intros; omega)
    · exact ((Keeps.refl (fun _ => True) w).alloc _).drewN _
set_option maxRecDepth 100000 in
set_option maxHeartbeats 8000000 in
theorem ref_May_h (e : Ev) (w : World) (hsm : EvSm e) (h1 : nameB e.src = true) (h2 : 1 ≤ e.num) (h3 : e.num ≤ 1099511627776) (h4 : 0 ≤ e.tick) (h5 : e.tick ≤ 1099511627776) (hk : e.kind < 0 ∨ 14 < e.kind) :
    Calls Tryz.prog 16 #[.agg #[.string e.src, .int .i64 e.num, .int .i64 e.tick, .int .i64 e.kind, .string e.person, .string e.item, .int .i64 e.value, .string e.text]] w fun r w' => r = .returned (.bool (tailE e)) ∧ Ext w w' := by
  have hp1 := sm_max hsm.src
  have hp2 := sm_max hsm.person
  have hp3 := sm_max hsm.item
  have hp4 := sm_max hsm.text
  have hp5 : e.text.size ≤ 1000000 := by have := hsm.text; omega
  have Hf := Lib.hid (tail_h hk)
  clear hsm
  have k0 : (e.kind == 0) = false := by rw [beq_eq_false_iff_ne]; omega
  have k1 : (e.kind == 1) = false := by rw [beq_eq_false_iff_ne]; omega
  have k2 : (e.kind == 2) = false := by rw [beq_eq_false_iff_ne]; omega
  have k3 : (e.kind == 3) = false := by rw [beq_eq_false_iff_ne]; omega
  have k4 : (e.kind == 4) = false := by rw [beq_eq_false_iff_ne]; omega
  have k5 : (e.kind == 5) = false := by rw [beq_eq_false_iff_ne]; omega
  have k6 : (e.kind == 6) = false := by rw [beq_eq_false_iff_ne]; omega
  have k7 : (e.kind == 7) = false := by rw [beq_eq_false_iff_ne]; omega
  have k8 : (e.kind == 8) = false := by rw [beq_eq_false_iff_ne]; omega
  have k9 : (e.kind == 9) = false := by rw [beq_eq_false_iff_ne]; omega
  have k10 : (e.kind == 10) = false := by rw [beq_eq_false_iff_ne]; omega
  have k11 : (e.kind == 11) = false := by rw [beq_eq_false_iff_ne]; omega
  have k12 : (e.kind == 12) = false := by rw [beq_eq_false_iff_ne]; omega
  have k13 : (e.kind == 13) = false := by rw [beq_eq_false_iff_ne]; omega
  have k14 : (e.kind == 14) = false := by rw [beq_eq_false_iff_ne]; omega
  clear hk
  go_enter Tryz.func16, Tryz.ntmps16
  go_wp2_with (first | (go_at_call 34; with_reducible refine (ref_Name e.src _ hp1).mono ?_; rw [h1]; rintro _ w' ⟨rfl, rfl⟩) | (go_at_call 35; refine (ref_In _ _ _ _).mono ?_; rintro _ w' ⟨rfl, rfl⟩))
  go_quiet (fail)
  go_wp2_with (first | fail)
  all_goals
    go_ret
    refine ⟨?_, ?_⟩
    · rw [Hf.out]; rfl
    · exact ((Keeps.refl (fun _ => True) w).alloc _).drewN _
set_option maxRecDepth 100000 in
set_option maxHeartbeats 4000000 in
theorem ref_May_no (e : Ev) (w : World) (hsm : EvSm e) (h : nameB e.src = false ∨ e.num < 1 ∨ 1099511627776 < e.num ∨ e.tick < 0 ∨ 1099511627776 < e.tick) :
    Calls Tryz.prog 16 #[.agg #[.string e.src, .int .i64 e.num, .int .i64 e.tick, .int .i64 e.kind, .string e.person, .string e.item, .int .i64 e.value, .string e.text]] w fun r w' => r = .returned (.bool false) ∧ Ext w w' := by
  have hp1 := sm_max hsm.src
  clear hsm
  cases h1 : nameB e.src
  · clear h
    go_enter Tryz.func16, Tryz.ntmps16
    go_wp2_with (first | (go_at_call 34; with_reducible refine (ref_Name e.src _ hp1).mono ?_; rw [h1]; rintro _ w' ⟨rfl, rfl⟩) | (go_at_call 35; refine (ref_In _ _ _ _).mono ?_; rintro _ w' ⟨rfl, rfl⟩))
    go_ret
    exact ⟨rfl, (Keeps.refl (fun _ => True) w).alloc _⟩
  have h' : e.num < 1 ∨ 1099511627776 < e.num ∨ e.tick < 0 ∨ 1099511627776 < e.tick := by
    rcases h with h | h
    · rw [h1] at h; cases h
    · exact h
  clear h
  by_cases a1 : e.num < 1
  · have b1 : decide (1 ≤ e.num) = false := decide_eq_false (by omega)
    clear h'
    go_enter Tryz.func16, Tryz.ntmps16
    go_wp2_with (first | (go_at_call 34; with_reducible refine (ref_Name e.src _ hp1).mono ?_; rw [h1]; rintro _ w' ⟨rfl, rfl⟩) | (go_at_call 35; refine (ref_In _ _ _ _).mono ?_; rintro _ w' ⟨rfl, rfl⟩))
    go_ret
    exact ⟨rfl, (Keeps.refl (fun _ => True) w).alloc _⟩
  have b1 : decide (1 ≤ e.num) = true := decide_eq_true (by omega)
  by_cases a2 : 1099511627776 < e.num
  · have b2 : decide (e.num ≤ 1099511627776) = false := decide_eq_false (by omega)
    clear h'
    go_enter Tryz.func16, Tryz.ntmps16
    go_wp2_with (first | (go_at_call 34; with_reducible refine (ref_Name e.src _ hp1).mono ?_; rw [h1]; rintro _ w' ⟨rfl, rfl⟩) | (go_at_call 35; refine (ref_In _ _ _ _).mono ?_; rintro _ w' ⟨rfl, rfl⟩))
    go_ret
    exact ⟨rfl, (Keeps.refl (fun _ => True) w).alloc _⟩
  have b2 : decide (e.num ≤ 1099511627776) = true := decide_eq_true (by omega)
  by_cases a3 : e.tick < 0
  · have b3 : decide (0 ≤ e.tick) = false := decide_eq_false (by omega)
    clear h'
    go_enter Tryz.func16, Tryz.ntmps16
    go_wp2_with (first | (go_at_call 34; with_reducible refine (ref_Name e.src _ hp1).mono ?_; rw [h1]; rintro _ w' ⟨rfl, rfl⟩) | (go_at_call 35; refine (ref_In _ _ _ _).mono ?_; rintro _ w' ⟨rfl, rfl⟩))
    go_ret
    exact ⟨rfl, (Keeps.refl (fun _ => True) w).alloc _⟩
  have a4 : 1099511627776 < e.tick := by omega
  have b3 : decide (e.tick ≤ 1099511627776) = false := decide_eq_false (by omega)
  have b4 : decide (0 ≤ e.tick) = true := decide_eq_true (by omega)
  clear h'
  go_enter Tryz.func16, Tryz.ntmps16
  go_wp2_with (first | (go_at_call 34; with_reducible refine (ref_Name e.src _ hp1).mono ?_; rw [h1]; rintro _ w' ⟨rfl, rfl⟩) | (go_at_call 35; refine (ref_In _ _ _ _).mono ?_; rintro _ w' ⟨rfl, rfl⟩))
  go_ret
  exact ⟨rfl, (Keeps.refl (fun _ => True) w).alloc _⟩

theorem ref_May (e : Ev) (w : World) (hsm : EvSm e) :
    Calls Tryz.prog 16 #[.agg #[.string e.src, .int .i64 e.num, .int .i64 e.tick, .int .i64 e.kind, .string e.person, .string e.item, .int .i64 e.value, .string e.text]] w fun r w' => r = .returned (.bool (mayE e)) ∧ Ext w w' := by
  cases h1 : nameB e.src
  · rw [may_no1 h1]; exact ref_May_no e w hsm (.inl h1)
  by_cases h : e.num < 1 ∨ 1099511627776 < e.num ∨ e.tick < 0 ∨ 1099511627776 < e.tick
  · rw [may_no2 h]; exact ref_May_no e w hsm (.inr h)
  have a1 : 1 ≤ e.num := by omega
  have a2 : e.num ≤ 1099511627776 := by omega
  have a3 : 0 ≤ e.tick := by omega
  have a4 : e.tick ≤ 1099511627776 := by omega
  rw [may_head h1 a1 a2 a3 a4]
  by_cases ka : e.kind = 0 ∨ e.kind = 1 ∨ e.kind = 2 ∨ e.kind = 3 ∨ e.kind = 5 ∨ e.kind = 6
  · exact ref_May_a e w hsm h1 a1 a2 a3 a4 ka
  by_cases kb : e.kind = 4
  · exact ref_May_b e w hsm h1 a1 a2 a3 a4 kb
  by_cases kc : e.kind = 7 ∨ e.kind = 8 ∨ e.kind = 9 ∨ e.kind = 10
  · exact ref_May_c e w hsm h1 a1 a2 a3 a4 kc
  by_cases kd : e.kind = 11
  · exact ref_May_d e w hsm h1 a1 a2 a3 a4 kd
  by_cases ke : e.kind = 12
  · exact ref_May_e e w hsm h1 a1 a2 a3 a4 ke
  by_cases kf : e.kind = 13
  · exact ref_May_f e w hsm h1 a1 a2 a3 a4 kf
  by_cases kg : e.kind = 14
  · exact ref_May_g e w hsm h1 a1 a2 a3 a4 kg
  exact ref_May_h e w hsm h1 a1 a2 a3 a4 (by omega)
end Go.Proofs.YtpkkkhgmkndpdaaGreatDoor
namespace Go.Proofs.YtpkkkhgmkndpdaaGreatDoor
open Go Go.RowKit Go.Proofs
theorem nameB_size {s : ByteArray} (h : nameB s = true) : 1 ≤ s.size ∧ s.size ≤ 24 := by
  simp only [nameB, Bool.and_eq_true, decide_eq_true_eq] at h
  omega
theorem noneB_size {s : ByteArray} (h : noneB s = true) : s.size = 0 := by
  unfold noneB at h
  rw [ByteArray.toList_eq] at h
  have := List.isEmpty_iff.1 h
  have h2 : s.data.toList.length = s.size := by simp
  rw [this] at h2; simpa using h2.symm
theorem parts_sum (c : UInt8) : ∀ l : List UInt8, ((partsL c l).map (fun p => p.length + 1)).sum = l.length + 1 := by
  intro l
  induction l with
  | nil => rfl
  | cons b l ih =>
    simp only [partsL]
    split
    · simp only [List.map_cons, List.sum_cons, ih, List.length_nil, List.length_cons]; omega
    · split
      · rename_i h; exact absurd h (parts_ne c l)
      · rename_i q ps h
        rw [h] at ih
        simp only [List.map_cons, List.sum_cons, List.length_cons] at ih ⊢
        omega
theorem sum_le {l : List Nat} {k : Nat} (h : ∀ x ∈ l, x ≤ k) : l.sum ≤ l.length * k := by
  induction l with
  | nil => simp
  | cons a l ih =>
    have h1 := h a (by simp)
    have h2 := ih (fun x hx => h x (by simp [hx]))
    simp only [List.sum_cons, List.length_cons, Nat.succ_mul]; omega
theorem label_parts {s : ByteArray} (h : labelB s = true) : semiB s = true ∧ nameB (makerB s) = true ∧ (tagsB s).length ≤ 8 ∧ ∀ t ∈ tagsB s, nameB t = true := by
  simp only [labelB, Bool.and_eq_true, decide_eq_true_eq] at h
  obtain ⟨⟨⟨h1, h2⟩, h3⟩, h4⟩ := h
  refine ⟨h1, h2, h3, fun t ht => ?_⟩
  obtain ⟨i, hi, rfl⟩ := List.mem_iff_getElem.1 ht
  have h5 := List.all_eq_true.1 h4 i (List.mem_range.2 hi)
  simp only [tagOk, List.getElem?_eq_getElem hi, Bool.and_eq_true] at h5
  exact h5.1
theorem label_size {s : ByteArray} (h : labelB s = true) : s.size ≤ 224 := by
  obtain ⟨h1, h2, h3, h4⟩ := label_parts h
  have hm := (nameB_size h2).2
  rcases cut_cases 59 s.data.toList with hf | ⟨a, r, hf, e⟩
  · unfold semiB at h1; rw [(cut_none hf).2.2] at h1; cases h1
  · have hsz := hit_size e
    have ha : (makerB s).size = a.length := by unfold makerB; rw [bts_size, e, (cut_hit hf).1]
    by_cases hr : r = []
    · subst hr; simp at hsz; omega
    · have ht := tagsB_some hf e hr
      rw [ht] at h3 h4
      have hs := parts_sum 44 r
      have hle : ((partsL 44 r).map (fun p => p.length + 1)).sum ≤ ((partsL 44 r).map (fun p => p.length + 1)).length * 25 := sum_le (fun x hx => by
        obtain ⟨p, hp, rfl⟩ := List.mem_map.1 hx
        have := (nameB_size (h4 (bts p) (List.mem_map.2 ⟨p, hp, rfl⟩))).2
        rw [bts_size] at this; omega)
      simp only [List.length_map] at h3 hle
      omega
structure MayF (e : Ev) : Prop where
  src : nameB e.src = true
  num0 : 1 ≤ e.num
  num1 : e.num ≤ 1099511627776
  tick0 : 0 ≤ e.tick
  tick1 : e.tick ≤ 1099511627776
  kind0 : 0 ≤ e.kind
  kind1 : e.kind ≤ 14
  person : nameB e.person = true ∨ noneB e.person = true
  item : nameB e.item = true ∨ noneB e.item = true
  text : nameB e.text = true ∨ noneB e.text = true ∨ labelB e.text = true
  value0 : 0 ≤ e.value
  value1 : e.value ≤ 1048576
theorem mayF {e : Ev} (h : mayE e = true) : MayF e := by
  simp only [mayE, headE, Bool.and_eq_true, decide_eq_true_eq] at h
  obtain ⟨⟨⟨⟨⟨h1, h2⟩, h3⟩, h4⟩, h5⟩, h6⟩ := h
  by_cases ka : e.kind = 0 ∨ e.kind = 1 ∨ e.kind = 2 ∨ e.kind = 3 ∨ e.kind = 5 ∨ e.kind = 6
  · rw [tail_a ka] at h6
    simp only [Bool.and_eq_true, decide_eq_true_eq] at h6
    obtain ⟨⟨⟨a1, a2⟩, a3⟩, a4⟩ := h6
    exact ⟨h1, h2, h3, h4, h5, by omega, by omega, .inl a1, .inl a2, .inr (.inl a4), by omega, by omega⟩
  by_cases kb : e.kind = 4
  · rw [tail_b kb] at h6
    simp only [Bool.and_eq_true, decide_eq_true_eq] at h6
    obtain ⟨⟨⟨⟨a1, a2⟩, a3⟩, a4⟩, a5⟩ := h6
    exact ⟨h1, h2, h3, h4, h5, by omega, by omega, .inl a1, .inl a2, .inr (.inl a5), by omega, by omega⟩
  by_cases kc : e.kind = 7 ∨ e.kind = 8 ∨ e.kind = 9 ∨ e.kind = 10
  · rw [tail_c kc] at h6
    simp only [Bool.and_eq_true, decide_eq_true_eq] at h6
    obtain ⟨⟨⟨a1, a2⟩, a3⟩, a4⟩ := h6
    exact ⟨h1, h2, h3, h4, h5, by omega, by omega, .inl a1, .inr a2, .inl a4, by omega, by omega⟩
  by_cases kd : e.kind = 11
  · rw [tail_d kd] at h6
    simp only [Bool.and_eq_true, decide_eq_true_eq] at h6
    obtain ⟨⟨⟨⟨a1, a2⟩, a3⟩, a4⟩, a5⟩ := h6
    exact ⟨h1, h2, h3, h4, h5, by omega, by omega, .inr a1, .inl a2, .inr (.inr a5), by omega, by omega⟩
  by_cases ke : e.kind = 12
  · rw [tail_e ke] at h6
    simp only [Bool.and_eq_true, decide_eq_true_eq] at h6
    obtain ⟨⟨⟨⟨a1, a2⟩, a3⟩, a4⟩, a5⟩ := h6
    exact ⟨h1, h2, h3, h4, h5, by omega, by omega, .inr a1, .inl a2, .inr (.inl a5), by omega, by omega⟩
  by_cases kf : e.kind = 13
  · rw [tail_f kf] at h6
    simp only [Bool.and_eq_true, decide_eq_true_eq] at h6
    obtain ⟨⟨⟨a1, a2⟩, a3⟩, a4⟩ := h6
    exact ⟨h1, h2, h3, h4, h5, by omega, by omega, .inr a1, .inl a2, .inr (.inl a4), by omega, by omega⟩
  by_cases kg : e.kind = 14
  · rw [tail_g kg] at h6
    simp only [Bool.and_eq_true, decide_eq_true_eq] at h6
    obtain ⟨⟨⟨a1, a2⟩, a3⟩, a4⟩ := h6
    exact ⟨h1, h2, h3, h4, h5, by omega, by omega, .inl a1, .inr a2, .inr (.inl a4), by omega, by omega⟩
  rw [tail_h (by omega)] at h6
  cases h6
theorem MayF.num00 {e : Ev} (h : MayF e) : 0 ≤ e.num := by have := h.num0; omega
theorem MayF.value11 {e : Ev} (h : MayF e) : e.value ≤ 1099511627776 := by have := h.value1; omega
theorem MayF.psize {e : Ev} (h : MayF e) : e.person.size ≤ 24 := by
  rcases h.person with h | h
  · exact (nameB_size h).2
  · rw [noneB_size h]; omega
theorem MayF.isize {e : Ev} (h : MayF e) : e.item.size ≤ 24 := by
  rcases h.item with h | h
  · exact (nameB_size h).2
  · rw [noneB_size h]; omega
theorem MayF.tsize {e : Ev} (h : MayF e) : e.text.size ≤ 224 := by
  rcases h.text with h | h | h
  · have := (nameB_size h).2; omega
  · rw [noneB_size h]; omega
  · exact label_size h
end Go.Proofs.YtpkkkhgmkndpdaaGreatDoor
