/-
  What is proved here: what an event is worth, by the program and by the document. No condition.
-/
import Derived.Test.YtdkgphambjnbiaaDoorEvBig
namespace Go.Proofs.YtdkgphambjnbiaaDoor
open Go Go.RowKit Go.Proofs
attribute [local go_sem ↓] Go.wp_at_zero Go.wp_at_succ
set_option maxRecDepth 100000 in
set_option maxHeartbeats 2000000 in
theorem ev_Worth (e : Ev) (w : World) :
    Calls Tryd.prog 41 #[.agg #[.string e.src, .int .i64 e.num, .int .i64 e.tick, .int .i64 e.kind, .string e.person, .string e.item, .int .i64 e.value, .string e.text]] w fun r w' => r = .returned (.int .i64 (worthE e)) ∧ Ext w w' := by
  have Hf := Lib.hid (show worthE e = if (e.kind == 1) = true then 1 else if (e.kind == 2) = true then 3 else if (e.kind == 3) = true then 5 else if (e.kind == 4) = true then e.value else 0 by unfold worthE; simp only [beq_iff_eq])
  go_enter Tryd.func41, Tryd.ntmps41
  go_wp2_with fail
  all_goals
    go_ret
    refine ⟨?_, (Keeps.refl _ _).alloc _⟩
    rw [Hf.out]
    repeat (first | rw [if_pos (by assumption)] | rw [if_neg (by rw [Bool.not_eq_true]; assumption)])
    rfl
set_option maxRecDepth 100000 in
set_option maxHeartbeats 2000000 in
theorem ref_Worth (e : Ev) (w : World) :
    Calls Tryd.prog 45 #[.agg #[.string e.src, .int .i64 e.num, .int .i64 e.tick, .int .i64 e.kind, .string e.person, .string e.item, .int .i64 e.value, .string e.text]] w fun r w' => r = .returned (.int .i64 (worthE e)) ∧ Ext w w' := by
  have Hf := Lib.hid (show worthE e = if (e.kind == 1) = true then 1 else if (e.kind == 2) = true then 3 else if (e.kind == 3) = true then 5 else if (e.kind == 4) = true then e.value else 0 by unfold worthE; simp only [beq_iff_eq])
  go_enter Tryd.func45, Tryd.ntmps45
  go_wp2_with fail
  all_goals
    go_ret
    refine ⟨?_, (Keeps.refl _ _).alloc _⟩
    rw [Hf.out]
    repeat (first | rw [if_pos (by assumption)] | rw [if_neg (by rw [Bool.not_eq_true]; assumption)])
    rfl

end Go.Proofs.YtdkgphambjnbiaaDoor
