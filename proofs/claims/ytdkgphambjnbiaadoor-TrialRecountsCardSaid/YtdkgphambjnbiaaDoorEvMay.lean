/-
  What is proved here: whether an event may be, the program's way, is mayE. Conditions: texts of at most a million bytes; the library's own variable holds some number.
-/
import Derived.Test.YtdkgphambjnbiaaDoorEvLst
namespace Go.Proofs.YtdkgphambjnbiaaDoor
open Go Go.RowKit Go.Proofs
attribute [local go_sem ↓] Go.wp_at_zero Go.wp_at_succ

/-- An event of short texts. -/
structure EvSm (e : Ev) : Prop where
  src : e.src.size ≤ 999999
  person : e.person.size ≤ 999999
  item : e.item.size ≤ 999999
  text : e.text.size ≤ 999999
theorem sm_max {n : Nat} (h : n ≤ 999999) : n ≤ maxLen := by unfold maxLen; omega




theorem tail_a {e : Ev} (h : e.kind = 0 ∨ e.kind = 1 ∨ e.kind = 2 ∨ e.kind = 3 ∨ e.kind = 5 ∨ e.kind = 6) : tailE e = (nameB e.person && nameB e.item && decide (e.value = 0) && noneB e.text) := by
  unfold tailE
  rw [if_pos (by omega)]
theorem tail_b {e : Ev} (h : e.kind = 4) : tailE e = (nameB e.person && nameB e.item && decide (1 ≤ e.value) && decide (e.value ≤ 5) && noneB e.text) := by
  unfold tailE
  rw [if_neg (by omega), if_pos (by omega)]
theorem tail_c {e : Ev} (h : e.kind = 7 ∨ e.kind = 8 ∨ e.kind = 9 ∨ e.kind = 10) : tailE e = (nameB e.person && noneB e.item && decide (e.value = 0) && nameB e.text) := by
  unfold tailE
  rw [if_neg (by omega), if_neg (by omega), if_pos (by omega)]
theorem tail_d {e : Ev} (h : e.kind = 11) : tailE e = (noneB e.person && nameB e.item && decide (0 ≤ e.value) && decide (e.value ≤ 1048576) && labelB e.text) := by
  unfold tailE
  rw [if_neg (by omega), if_neg (by omega), if_neg (by omega), if_pos (by omega)]
theorem tail_e {e : Ev} (h : e.kind = 12) : tailE e = (noneB e.person && nameB e.item && decide (0 ≤ e.value) && decide (e.value ≤ 1048576) && noneB e.text) := by
  unfold tailE
  rw [if_neg (by omega), if_neg (by omega), if_neg (by omega), if_neg (by omega), if_pos (by omega)]
theorem tail_f {e : Ev} (h : e.kind = 13) : tailE e = (noneB e.person && nameB e.item && decide (e.value = 0) && noneB e.text) := by
  unfold tailE
  rw [if_neg (by omega), if_neg (by omega), if_neg (by omega), if_neg (by omega), if_neg (by omega), if_pos (by omega)]
theorem tail_g {e : Ev} (h : e.kind = 14) : tailE e = (nameB e.person && noneB e.item && decide (e.value = 0) && noneB e.text) := by
  unfold tailE
  rw [if_neg (by omega), if_neg (by omega), if_neg (by omega), if_neg (by omega), if_neg (by omega), if_neg (by omega), if_pos (by omega)]
theorem tail_h {e : Ev} (h : e.kind < 0 ∨ 14 < e.kind) : tailE e = false := by
  unfold tailE
  rw [if_neg (by omega), if_neg (by omega), if_neg (by omega), if_neg (by omega), if_neg (by omega), if_neg (by omega), if_neg (by omega)]
set_option maxRecDepth 100000 in
set_option maxHeartbeats 8000000 in
theorem ev_May_a (e : Ev) (w : World) (hsm : EvSm e) (hm : Mx w) (h1 : nameB e.src = true) (h2 : 1 ≤ e.num) (h3 : e.num ≤ 1099511627776) (h4 : 0 ≤ e.tick) (h5 : e.tick ≤ 1099511627776) (hk : e.kind = 0 ∨ e.kind = 1 ∨ e.kind = 2 ∨ e.kind = 3 ∨ e.kind = 5 ∨ e.kind = 6) :
    Calls Tryd.prog 40 #[.agg #[.string e.src, .int .i64 e.num, .int .i64 e.tick, .int .i64 e.kind, .string e.person, .string e.item, .int .i64 e.value, .string e.text]] w fun r w' => r = .returned (.bool (tailE e)) ∧ Ext w w' := by
  have hp1 := sm_max hsm.src
  have hp2 := sm_max hsm.person
  have hp3 := sm_max hsm.item
  have hp4 := sm_max hsm.text
  have hp5 := hsm.text
  have Hm := Lib.hid hm
  have Hf := Lib.hid (tail_a hk)
  clear hm hsm
  rcases hk with hk | hk | hk | hk | hk | hk
  all_goals
    rw [hk]
    clear hk
    go_enter Tryd.func40, Tryd.ntmps40
    go_wp2_with (go_at_call 34; refine (event_Name _ _ hp1).mono ?_; rw [h1]; rintro _ w' ⟨rfl, rfl⟩)
    go_quiet ((first | (go_at_call 34; with_reducible exact Calls.quiet_of_same ((event_Name e.person _ hp2).mono fun _ _ ⟨h1, h2⟩ => ⟨h1, h2.symm⟩)) | (go_at_call 34; with_reducible exact Calls.quiet_of_same ((event_Name e.item _ hp3).mono fun _ _ ⟨h1, h2⟩ => ⟨h1, h2.symm⟩))))
    go_wp2_with fail
    all_goals
      go_ret
      refine ⟨?_, ?_⟩
      · rw [Hf.out]; first | (simp [*, noneB]; done) | (simp [*, noneB]; intros; omega)
      · exact ((Keeps.refl (fun _ => True) w).alloc _).drewN _
set_option maxRecDepth 100000 in
set_option maxHeartbeats 8000000 in
theorem ev_May_b (e : Ev) (w : World) (hsm : EvSm e) (hm : Mx w) (h1 : nameB e.src = true) (h2 : 1 ≤ e.num) (h3 : e.num ≤ 1099511627776) (h4 : 0 ≤ e.tick) (h5 : e.tick ≤ 1099511627776) (hk : e.kind = 4) :
    Calls Tryd.prog 40 #[.agg #[.string e.src, .int .i64 e.num, .int .i64 e.tick, .int .i64 e.kind, .string e.person, .string e.item, .int .i64 e.value, .string e.text]] w fun r w' => r = .returned (.bool (tailE e)) ∧ Ext w w' := by
  have hp1 := sm_max hsm.src
  have hp2 := sm_max hsm.person
  have hp3 := sm_max hsm.item
  have hp4 := sm_max hsm.text
  have hp5 := hsm.text
  have Hm := Lib.hid hm
  have Hf := Lib.hid (tail_b hk)
  clear hm hsm
  rw [hk]
  clear hk
  go_enter Tryd.func40, Tryd.ntmps40
  go_wp2_with (go_at_call 34; refine (event_Name _ _ hp1).mono ?_; rw [h1]; rintro _ w' ⟨rfl, rfl⟩)
  go_quiet ((first | (go_at_call 34; with_reducible exact Calls.quiet_of_same ((event_Name e.person _ hp2).mono fun _ _ ⟨h1, h2⟩ => ⟨h1, h2.symm⟩)) | (go_at_call 34; with_reducible exact Calls.quiet_of_same ((event_Name e.item _ hp3).mono fun _ _ ⟨h1, h2⟩ => ⟨h1, h2.symm⟩))))
  go_wp2_with fail
  all_goals
    go_ret
    refine ⟨?_, ?_⟩
    · rw [Hf.out]; first | (simp [*, noneB]; done) | (simp [*, noneB]; intros; omega)
    · exact ((Keeps.refl (fun _ => True) w).alloc _).drewN _
set_option maxRecDepth 100000 in
set_option maxHeartbeats 8000000 in
theorem ev_May_c (e : Ev) (w : World) (hsm : EvSm e) (hm : Mx w) (h1 : nameB e.src = true) (h2 : 1 ≤ e.num) (h3 : e.num ≤ 1099511627776) (h4 : 0 ≤ e.tick) (h5 : e.tick ≤ 1099511627776) (hk : e.kind = 7 ∨ e.kind = 8 ∨ e.kind = 9 ∨ e.kind = 10) :
    Calls Tryd.prog 40 #[.agg #[.string e.src, .int .i64 e.num, .int .i64 e.tick, .int .i64 e.kind, .string e.person, .string e.item, .int .i64 e.value, .string e.text]] w fun r w' => r = .returned (.bool (tailE e)) ∧ Ext w w' := by
  have hp1 := sm_max hsm.src
  have hp2 := sm_max hsm.person
  have hp3 := sm_max hsm.item
  have hp4 := sm_max hsm.text
  have hp5 := hsm.text
  have Hm := Lib.hid hm
  have Hf := Lib.hid (tail_c hk)
  clear hm hsm
  rcases hk with hk | hk | hk | hk
  all_goals
    rw [hk]
    clear hk
    go_enter Tryd.func40, Tryd.ntmps40
    go_wp2_with (go_at_call 34; refine (event_Name _ _ hp1).mono ?_; rw [h1]; rintro _ w' ⟨rfl, rfl⟩)
    go_quiet ((first | (go_at_call 34; with_reducible exact Calls.quiet_of_same ((event_Name e.person _ hp2).mono fun _ _ ⟨h1, h2⟩ => ⟨h1, h2.symm⟩)) | (go_at_call 34; with_reducible exact Calls.quiet_of_same ((event_Name e.item _ hp3).mono fun _ _ ⟨h1, h2⟩ => ⟨h1, h2.symm⟩))))
    go_wp2_with (go_at_call 34; refine (event_Name e.text _ hp4).mono ?_; rintro _ w' ⟨rfl, rfl⟩)
    all_goals
      go_ret
      refine ⟨?_, ?_⟩
      · rw [Hf.out]; first | (simp [*, noneB]; done) | (simp [*, noneB]; intros; omega)
      · exact ((Keeps.refl (fun _ => True) w).alloc _).drewN _
set_option maxRecDepth 100000 in
set_option maxHeartbeats 8000000 in
theorem ev_May_d (e : Ev) (w : World) (hsm : EvSm e) (hm : Mx w) (h1 : nameB e.src = true) (h2 : 1 ≤ e.num) (h3 : e.num ≤ 1099511627776) (h4 : 0 ≤ e.tick) (h5 : e.tick ≤ 1099511627776) (hk : e.kind = 11) :
    Calls Tryd.prog 40 #[.agg #[.string e.src, .int .i64 e.num, .int .i64 e.tick, .int .i64 e.kind, .string e.person, .string e.item, .int .i64 e.value, .string e.text]] w fun r w' => r = .returned (.bool (tailE e)) ∧ Ext w w' := by
  have hp1 := sm_max hsm.src
  have hp2 := sm_max hsm.person
  have hp3 := sm_max hsm.item
  have hp4 := sm_max hsm.text
  have hp5 := hsm.text
  have Hm := Lib.hid hm
  have Hf := Lib.hid (tail_d hk)
  clear hm hsm
  rw [hk]
  clear hk
  go_enter Tryd.func40, Tryd.ntmps40
  go_wp2_with (go_at_call 34; refine (event_Name _ _ hp1).mono ?_; rw [h1]; rintro _ w' ⟨rfl, rfl⟩)
  go_quiet ((first | (go_at_call 34; with_reducible exact Calls.quiet_of_same ((event_Name e.person _ hp2).mono fun _ _ ⟨h1, h2⟩ => ⟨h1, h2.symm⟩)) | (go_at_call 34; with_reducible exact Calls.quiet_of_same ((event_Name e.item _ hp3).mono fun _ _ ⟨h1, h2⟩ => ⟨h1, h2.symm⟩))))
  go_wp2_with (go_at_call 53; refine (ev_listing e.text _ hp5 (Hm.out.ext (((Keeps.refl (fun _ => True) w).alloc _).drewN _))).mono ?_; rintro _ w' ⟨rfl, hx⟩; have Hx := Lib.hid (Keeps.trans (((Keeps.refl (fun _ => True) w).alloc _).drewN _) hx); clear hx)
  all_goals
    go_ret
    refine ⟨?_, ?_⟩
    · rw [Hf.out]; first | (simp [*, noneB]; done) | (simp [*, noneB]; intros; omega)
    · first | exact ((Keeps.refl (fun _ => True) w).alloc _).drewN _ | exact Hx.out
set_option maxRecDepth 100000 in
set_option maxHeartbeats 8000000 in
theorem ev_May_e (e : Ev) (w : World) (hsm : EvSm e) (hm : Mx w) (h1 : nameB e.src = true) (h2 : 1 ≤ e.num) (h3 : e.num ≤ 1099511627776) (h4 : 0 ≤ e.tick) (h5 : e.tick ≤ 1099511627776) (hk : e.kind = 12) :
    Calls Tryd.prog 40 #[.agg #[.string e.src, .int .i64 e.num, .int .i64 e.tick, .int .i64 e.kind, .string e.person, .string e.item, .int .i64 e.value, .string e.text]] w fun r w' => r = .returned (.bool (tailE e)) ∧ Ext w w' := by
  have hp1 := sm_max hsm.src
  have hp2 := sm_max hsm.person
  have hp3 := sm_max hsm.item
  have hp4 := sm_max hsm.text
  have hp5 := hsm.text
  have Hm := Lib.hid hm
  have Hf := Lib.hid (tail_e hk)
  clear hm hsm
  rw [hk]
  clear hk
  go_enter Tryd.func40, Tryd.ntmps40
  go_wp2_with (go_at_call 34; refine (event_Name _ _ hp1).mono ?_; rw [h1]; rintro _ w' ⟨rfl, rfl⟩)
  go_quiet ((first | (go_at_call 34; with_reducible exact Calls.quiet_of_same ((event_Name e.person _ hp2).mono fun _ _ ⟨h1, h2⟩ => ⟨h1, h2.symm⟩)) | (go_at_call 34; with_reducible exact Calls.quiet_of_same ((event_Name e.item _ hp3).mono fun _ _ ⟨h1, h2⟩ => ⟨h1, h2.symm⟩))))
  go_wp2_with fail
  all_goals
    go_ret
    refine ⟨?_, ?_⟩
    · rw [Hf.out]; first | (simp [*, noneB]; done) | (simp [*, noneB]; intros; omega)
    · exact ((Keeps.refl (fun _ => True) w).alloc _).drewN _
set_option maxRecDepth 100000 in
set_option maxHeartbeats 8000000 in
theorem ev_May_f (e : Ev) (w : World) (hsm : EvSm e) (hm : Mx w) (h1 : nameB e.src = true) (h2 : 1 ≤ e.num) (h3 : e.num ≤ 1099511627776) (h4 : 0 ≤ e.tick) (h5 : e.tick ≤ 1099511627776) (hk : e.kind = 13) :
    Calls Tryd.prog 40 #[.agg #[.string e.src, .int .i64 e.num, .int .i64 e.tick, .int .i64 e.kind, .string e.person, .string e.item, .int .i64 e.value, .string e.text]] w fun r w' => r = .returned (.bool (tailE e)) ∧ Ext w w' := by
  have hp1 := sm_max hsm.src
  have hp2 := sm_max hsm.person
  have hp3 := sm_max hsm.item
  have hp4 := sm_max hsm.text
  have hp5 := hsm.text
  have Hm := Lib.hid hm
  have Hf := Lib.hid (tail_f hk)
  clear hm hsm
  rw [hk]
  clear hk
  go_enter Tryd.func40, Tryd.ntmps40
  go_wp2_with (go_at_call 34; refine (event_Name _ _ hp1).mono ?_; rw [h1]; rintro _ w' ⟨rfl, rfl⟩)
  go_quiet ((first | (go_at_call 34; with_reducible exact Calls.quiet_of_same ((event_Name e.person _ hp2).mono fun _ _ ⟨h1, h2⟩ => ⟨h1, h2.symm⟩)) | (go_at_call 34; with_reducible exact Calls.quiet_of_same ((event_Name e.item _ hp3).mono fun _ _ ⟨h1, h2⟩ => ⟨h1, h2.symm⟩))))
  go_wp2_with fail
  all_goals
    go_ret
    refine ⟨?_, ?_⟩
    · rw [Hf.out]; first | (simp [*, noneB]; done) | (simp [*, noneB]; intros; omega)
    · exact ((Keeps.refl (fun _ => True) w).alloc _).drewN _
set_option maxRecDepth 100000 in
set_option maxHeartbeats 8000000 in
theorem ev_May_g (e : Ev) (w : World) (hsm : EvSm e) (hm : Mx w) (h1 : nameB e.src = true) (h2 : 1 ≤ e.num) (h3 : e.num ≤ 1099511627776) (h4 : 0 ≤ e.tick) (h5 : e.tick ≤ 1099511627776) (hk : e.kind = 14) :
    Calls Tryd.prog 40 #[.agg #[.string e.src, .int .i64 e.num, .int .i64 e.tick, .int .i64 e.kind, .string e.person, .string e.item, .int .i64 e.value, .string e.text]] w fun r w' => r = .returned (.bool (tailE e)) ∧ Ext w w' := by
  have hp1 := sm_max hsm.src
  have hp2 := sm_max hsm.person
  have hp3 := sm_max hsm.item
  have hp4 := sm_max hsm.text
  have hp5 := hsm.text
  have Hm := Lib.hid hm
  have Hf := Lib.hid (tail_g hk)
  clear hm hsm
  rw [hk]
  clear hk
  go_enter Tryd.func40, Tryd.ntmps40
  go_wp2_with (go_at_call 34; refine (event_Name _ _ hp1).mono ?_; rw [h1]; rintro _ w' ⟨rfl, rfl⟩)
  go_quiet ((first | (go_at_call 34; with_reducible exact Calls.quiet_of_same ((event_Name e.person _ hp2).mono fun _ _ ⟨h1, h2⟩ => ⟨h1, h2.symm⟩)) | (go_at_call 34; with_reducible exact Calls.quiet_of_same ((event_Name e.item _ hp3).mono fun _ _ ⟨h1, h2⟩ => ⟨h1, h2.symm⟩))))
  go_wp2_with fail
  all_goals
    go_ret
    refine ⟨?_, ?_⟩
    · rw [Hf.out]; first | (simp [*, noneB]; done) | (simp [*, noneB]; intros; omega)
    · exact ((Keeps.refl (fun _ => True) w).alloc _).drewN _
set_option maxRecDepth 100000 in
set_option maxHeartbeats 8000000 in
theorem ev_May_h (e : Ev) (w : World) (hsm : EvSm e) (hm : Mx w) (h1 : nameB e.src = true) (h2 : 1 ≤ e.num) (h3 : e.num ≤ 1099511627776) (h4 : 0 ≤ e.tick) (h5 : e.tick ≤ 1099511627776) (hk : e.kind < 0 ∨ 14 < e.kind) :
    Calls Tryd.prog 40 #[.agg #[.string e.src, .int .i64 e.num, .int .i64 e.tick, .int .i64 e.kind, .string e.person, .string e.item, .int .i64 e.value, .string e.text]] w fun r w' => r = .returned (.bool (tailE e)) ∧ Ext w w' := by
  have hp1 := sm_max hsm.src
  have hp2 := sm_max hsm.person
  have hp3 := sm_max hsm.item
  have hp4 := sm_max hsm.text
  have hp5 := hsm.text
  have Hm := Lib.hid hm
  have Hf := Lib.hid (tail_h hk)
  clear hm hsm
  have k0 : (e.kind == 0) = false := by rw [beq_eq_false_iff_ne]; omega
  have k1 : (e.kind == 1) = false := by rw [beq_eq_false_iff_ne]; omega
  have k2 : (e.kind == 2) = false := by rw [beq_eq_false_iff_ne]; omega
  have k3 : (e.kind == 3) = false := by rw [beq_eq_false_iff_ne]; omega
  have k4 : (e.kind == 4) = false := by rw [beq_eq_false_iff_ne]; omega
  have k5 : (e.kind == 5) = false := by rw [beq_eq_false_iff_ne]; omega
  have k6 : (e.kind == 6) = false := by rw [beq_eq_false_iff_ne]; omega
  have k7 : (e.kind == 7) = false := by rw [beq_eq_false_iff_ne]; omega
  have k8 : (e.kind == 8) = false := by rw [beq_eq_false_iff_ne]; omega
  have k9 : (e.kind == 9) = false := by rw [beq_eq_false_iff_ne]; omega
  have k10 : (e.kind == 10) = false := by rw [beq_eq_false_iff_ne]; omega
  have k11 : (e.kind == 11) = false := by rw [beq_eq_false_iff_ne]; omega
  have k12 : (e.kind == 12) = false := by rw [beq_eq_false_iff_ne]; omega
  have k13 : (e.kind == 13) = false := by rw [beq_eq_false_iff_ne]; omega
  have k14 : (e.kind == 14) = false := by rw [beq_eq_false_iff_ne]; omega
  clear hk
  go_enter Tryd.func40, Tryd.ntmps40
  go_wp2_with (go_at_call 34; refine (event_Name _ _ hp1).mono ?_; rw [h1]; rintro _ w' ⟨rfl, rfl⟩)
  go_quiet ((first | (go_at_call 34; with_reducible exact Calls.quiet_of_same ((event_Name e.person _ hp2).mono fun _ _ ⟨h1, h2⟩ => ⟨h1, h2.symm⟩)) | (go_at_call 34; with_reducible exact Calls.quiet_of_same ((event_Name e.item _ hp3).mono fun _ _ ⟨h1, h2⟩ => ⟨h1, h2.symm⟩))))
  go_wp2_with fail
  all_goals
    go_ret
    refine ⟨?_, ?_⟩
    · rw [Hf.out]; rfl
    · exact ((Keeps.refl (fun _ => True) w).alloc _).drewN _
theorem may_head {e : Ev} (h1 : nameB e.src = true) (h2 : 1 ≤ e.num) (h3 : e.num ≤ 1099511627776) (h4 : 0 ≤ e.tick) (h5 : e.tick ≤ 1099511627776) : mayE e = tailE e := by
  unfold mayE headE
  simp [h1, h2, h3, h4, h5]
theorem may_no1 {e : Ev} (h : nameB e.src = false) : mayE e = false := by simp [mayE, headE, h]
theorem may_no2 {e : Ev} (h : e.num < 1 ∨ 1099511627776 < e.num ∨ e.tick < 0 ∨ 1099511627776 < e.tick) : mayE e = false := by
  rw [Bool.eq_false_iff]; intro hm
  simp only [mayE, headE, Bool.and_eq_true, decide_eq_true_eq] at hm
  omega
set_option maxRecDepth 100000 in
set_option maxHeartbeats 4000000 in
theorem ev_May_no (e : Ev) (w : World) (hsm : EvSm e) (h : nameB e.src = false ∨ e.num < 1 ∨ 1099511627776 < e.num ∨ e.tick < 0 ∨ 1099511627776 < e.tick) :
    Calls Tryd.prog 40 #[.agg #[.string e.src, .int .i64 e.num, .int .i64 e.tick, .int .i64 e.kind, .string e.person, .string e.item, .int .i64 e.value, .string e.text]] w fun r w' => r = .returned (.bool false) ∧ Ext w w' := by
  have hp1 := sm_max hsm.src
  clear hsm
  cases h1 : nameB e.src
  · clear h
    go_enter Tryd.func40, Tryd.ntmps40
    go_wp2_with (go_at_call 34; refine (event_Name _ _ hp1).mono ?_; rw [h1]; rintro _ w' ⟨rfl, rfl⟩)
    go_ret
    exact ⟨rfl, (Keeps.refl (fun _ => True) w).alloc _⟩
  have h' : e.num < 1 ∨ 1099511627776 < e.num ∨ e.tick < 0 ∨ 1099511627776 < e.tick := by
    rcases h with h | h
    · rw [h1] at h; cases h
    · exact h
  clear h
  by_cases a1 : e.num < 1
  · clear h'
    go_enter Tryd.func40, Tryd.ntmps40
    go_wp2_with (go_at_call 34; refine (event_Name _ _ hp1).mono ?_; rw [h1]; rintro _ w' ⟨rfl, rfl⟩)
    go_ret
    exact ⟨rfl, (Keeps.refl (fun _ => True) w).alloc _⟩
  by_cases a2 : 1099511627776 < e.num
  · clear h'
    go_enter Tryd.func40, Tryd.ntmps40
    go_wp2_with (go_at_call 34; refine (event_Name _ _ hp1).mono ?_; rw [h1]; rintro _ w' ⟨rfl, rfl⟩)
    go_ret
    exact ⟨rfl, (Keeps.refl (fun _ => True) w).alloc _⟩
  by_cases a3 : e.tick < 0
  · clear h'
    go_enter Tryd.func40, Tryd.ntmps40
    go_wp2_with (go_at_call 34; refine (event_Name _ _ hp1).mono ?_; rw [h1]; rintro _ w' ⟨rfl, rfl⟩)
    go_ret
    exact ⟨rfl, (Keeps.refl (fun _ => True) w).alloc _⟩
  have a4 : 1099511627776 < e.tick := by omega
  clear h'
  go_enter Tryd.func40, Tryd.ntmps40
  go_wp2_with (go_at_call 34; refine (event_Name _ _ hp1).mono ?_; rw [h1]; rintro _ w' ⟨rfl, rfl⟩)
  go_ret
  exact ⟨rfl, (Keeps.refl (fun _ => True) w).alloc _⟩

theorem ev_May (e : Ev) (w : World) (hsm : EvSm e) (hm : Mx w) :
    Calls Tryd.prog 40 #[.agg #[.string e.src, .int .i64 e.num, .int .i64 e.tick, .int .i64 e.kind, .string e.person, .string e.item, .int .i64 e.value, .string e.text]] w fun r w' => r = .returned (.bool (mayE e)) ∧ Ext w w' := by
  cases h1 : nameB e.src
  · rw [may_no1 h1]; exact ev_May_no e w hsm (.inl h1)
  by_cases h : e.num < 1 ∨ 1099511627776 < e.num ∨ e.tick < 0 ∨ 1099511627776 < e.tick
  · rw [may_no2 h]; exact ev_May_no e w hsm (.inr h)
  have a1 : 1 ≤ e.num := by omega
  have a2 : e.num ≤ 1099511627776 := by omega
  have a3 : 0 ≤ e.tick := by omega
  have a4 : e.tick ≤ 1099511627776 := by omega
  rw [may_head h1 a1 a2 a3 a4]
  by_cases ka : e.kind = 0 ∨ e.kind = 1 ∨ e.kind = 2 ∨ e.kind = 3 ∨ e.kind = 5 ∨ e.kind = 6
  · exact ev_May_a e w hsm hm h1 a1 a2 a3 a4 ka
  by_cases kb : e.kind = 4
  · exact ev_May_b e w hsm hm h1 a1 a2 a3 a4 kb
  by_cases kc : e.kind = 7 ∨ e.kind = 8 ∨ e.kind = 9 ∨ e.kind = 10
  · exact ev_May_c e w hsm hm h1 a1 a2 a3 a4 kc
  by_cases kd : e.kind = 11
  · exact ev_May_d e w hsm hm h1 a1 a2 a3 a4 kd
  by_cases ke : e.kind = 12
  · exact ev_May_e e w hsm hm h1 a1 a2 a3 a4 ke
  by_cases kf : e.kind = 13
  · exact ev_May_f e w hsm hm h1 a1 a2 a3 a4 kf
  by_cases kg : e.kind = 14
  · exact ev_May_g e w hsm hm h1 a1 a2 a3 a4 kg
  exact ev_May_h e w hsm hm h1 a1 a2 a3 a4 (by omega)
end Go.Proofs.YtdkgphambjnbiaaDoor
