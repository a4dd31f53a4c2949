/-
  What is proved here: '==' and '!=' of two events are those of the plain events. No condition.
-/
import Derived.Test.YtmhkgfoimkonoaaDoorEvCmp
import Derived.Laws.StructEq
namespace Go.Proofs.YtmhkgfoimkonoaaDoor
open Go Go.RowKit Go.Proofs
theorem toL_inj {a b : ByteArray} (h : a.toList = b.toList) : a = b := by
  rw [ByteArray.toList_eq, ByteArray.toList_eq] at h
  cases a; cases b; simpa using h
def eqE (a b : Ev) : Bool := a.src == b.src && a.num == b.num && a.tick == b.tick && a.kind == b.kind && a.person == b.person && a.item == b.item && a.value == b.value && a.text == b.text
theorem eqE_iff {a b : Ev} : eqE a b = true ↔ a = b := by
  obtain ⟨a1, a2, a3, a4, a5, a6, a7, a8⟩ := a
  obtain ⟨b1, b2, b3, b4, b5, b6, b7, b8⟩ := b
  simp [eqE, and_assoc, beqB_iff]
theorem eqE_refl (a : Ev) : eqE a a = true := eqE_iff.2 rfl
theorem eqE_ne {a b : Ev} (h : eqE a b = false) : a ≠ b := fun e => by rw [eqE_iff.2 e] at h; cases h
theorem ev_equalIn (a b : Ev) (w : World) : (Op.equalIn 10000 30 (.agg #[.string a.src, .int .i64 a.num, .int .i64 a.tick, .int .i64 a.kind, .string a.person, .string a.item, .int .i64 a.value, .string a.text]) (.agg #[.string b.src, .int .i64 b.num, .int .i64 b.tick, .int .i64 b.kind, .string b.person, .string b.item, .int .i64 b.value, .string b.text])).run Tryd.prog w = .ok (eqE a b) w := by
  have hS : Tryd.prog.underlying 30 = some (.struct (Tryd.prog.fieldsOf 30)) := by kernel_rfl
  have hp : Tryd.prog.stoodInHeld 30 = false := by kernel_rfl
  rw [show (10000 : Nat) = 9999 + 1 from rfl, run_equalIn_agg w 9999 30 _ _ hS hp]
  simp only [Program.fieldsOf, Tryd.underlying30]
  by_cases h : a = b
  · subst h
    rw [eqE_refl]
    go_simp
  · rw [show eqE a b = false by cases h9 : eqE a b; (· rfl); exact absurd (eqE_iff.1 h9) h]
    go_simp
    intro h1 h2 h3 h4 h5 h6 h7 h8
    apply h
    obtain ⟨a1, a2, a3, a4, a5, a6, a7, a8⟩ := a
    obtain ⟨b1, b2, b3, b4, b5, b6, b7, b8⟩ := b
    have e1 : a1 = b1 := toL_inj h1
    have e2 : a2 = b2 := h2
    have e3 : a3 = b3 := h3
    have e4 : a4 = b4 := h4
    have e5 : a5 = b5 := toL_inj h5
    have e6 : a6 = b6 := toL_inj h6
    have e7 : a7 = b7 := h7
    have e8 : a8 = b8 := toL_inj h8
    rw [e1, e2, e3, e4, e5, e6, e7, e8]
theorem ev_eql (a b : Ev) (w : World) : (binOp .eql 30 (.agg #[.string a.src, .int .i64 a.num, .int .i64 a.tick, .int .i64 a.kind, .string a.person, .string a.item, .int .i64 a.value, .string a.text]) (.agg #[.string b.src, .int .i64 b.num, .int .i64 b.tick, .int .i64 b.kind, .string b.person, .string b.item, .int .i64 b.value, .string b.text])).run Tryd.prog w = .ok (.bool (eqE a b)) w := by
  rw [run_eql_struct, ev_equalIn]; rfl
theorem ev_neq (a b : Ev) (w : World) : (binOp .neq 30 (.agg #[.string a.src, .int .i64 a.num, .int .i64 a.tick, .int .i64 a.kind, .string a.person, .string a.item, .int .i64 a.value, .string a.text]) (.agg #[.string b.src, .int .i64 b.num, .int .i64 b.tick, .int .i64 b.kind, .string b.person, .string b.item, .int .i64 b.value, .string b.text])).run Tryd.prog w = .ok (.bool (!(eqE a b))) w := by
  rw [run_neq_struct, ev_equalIn]; rfl
end Go.Proofs.YtmhkgfoimkonoaaDoor
