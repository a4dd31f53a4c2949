/-
  What is proved here: the document's Kinds are the kinds' names, in new memory; its some and none put a point for nothing, and back. Conditions: none.
-/
import Derived.Test.YtihdeidaekheoaaDoorEvDig2
namespace Go.Proofs.YtihdeidaekheoaaDoor
open Go Go.RowKit Go.Proofs
attribute [local go_sem ↓] Go.wp_at_zero Go.wp_at_succ
def KindsPost (w : World) (e : Ending) (w' : World) : Prop := ∃ g, e = .returned (.slice (some ⟨g, 0, none⟩) 15 15) ∧ w'.heap[g]? = some (.cells (kindsB.map Value.string).toArray 9) ∧ w.heap.size ≤ g ∧ Ext w w'
theorem ref_Kinds (w : World) : Calls Tryd.prog 55 #[] w (KindsPost w) := by
  go_enter Tryd.func55, Tryd.ntmps55
  go_wp2_with fail
  go_ret
  exact ⟨_, rfl, blk_new _ _, Nat.le_refl _, (Keeps.refl _ _).alloc _⟩
def undotB (s : ByteArray) : ByteArray := if s.data.toList == [46] then ⟨#[]⟩ else s
theorem ref_some (s : ByteArray) (w : World) : Calls Tryd.prog 56 #[.string s] w fun e w' => e = .returned (.string (dotB s)) ∧ w = w' := by
  cases hn : noneB s <;> have hn' : s.toList.isEmpty = _ := hn
  · have Hd := Lib.hid (show dotB s = s by unfold dotB; rw [hn]; rfl)
    go_enter Tryd.func56, Tryd.ntmps56
    go_wp2_with fail
    go_ret
    exact ⟨by rw [Hd.out]; rfl, rfl⟩
  · have Hd := Lib.hid (show dotB s = ⟨#[46]⟩ by unfold dotB; rw [hn]; rfl)
    go_enter Tryd.func56, Tryd.ntmps56
    go_wp2_with fail
    go_ret
    exact ⟨by rw [Hd.out]; rfl, rfl⟩
theorem ref_none (s : ByteArray) (w : World) : Calls Tryd.prog 58 #[.string s] w fun e w' => e = .returned (.string (undotB s)) ∧ w = w' := by
  cases hn : (s.data.toList == [46]) <;> have hn' : (s.toList == [46]) = _ := (show (s.toList == [46]) = (s.data.toList == [46]) by rw [ByteArray.toList_eq]).trans hn
  · have Hd := Lib.hid (show undotB s = s by unfold undotB; rw [hn]; rfl)
    clear hn
    go_enter Tryd.func58, Tryd.ntmps58
    go_wp2_with fail
    go_ret
    exact ⟨by rw [Hd.out]; rfl, rfl⟩
  · have Hd := Lib.hid (show undotB s = ⟨#[]⟩ by unfold undotB; rw [hn]; rfl)
    clear hn
    go_enter Tryd.func58, Tryd.ntmps58
    go_wp2_with fail
    go_ret
    exact ⟨by rw [Hd.out]; rfl, rfl⟩
end Go.Proofs.YtihdeidaekheoaaDoor
