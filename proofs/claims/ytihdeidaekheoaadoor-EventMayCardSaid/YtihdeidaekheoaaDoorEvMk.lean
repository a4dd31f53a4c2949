/-
  What is proved here: the program's Maker of a text, and that the document's Texts holds of like texts. Condition: texts of at most a million bytes; the library's own variable holds some number.
-/
import Derived.Test.YtihdeidaekheoaaDoorEvLst
import Derived.Test.YtihdeidaekheoaaDoorTexts
namespace Go.Proofs.YtihdeidaekheoaaDoor
open Go Go.RowKit Go.Proofs
attribute [local go_sem ↓] Go.wp_at_zero Go.wp_at_succ
set_option maxRecDepth 100000 in
theorem ev_Maker (s : ByteArray) (w : World) (hs : s.size ≤ 999999) (hm : Mx w) :
    Calls Tryd.prog 22 #[.string s] w fun r w' => r = .returned (.string (makerB s)) ∧ Ext w w' := by
  have Hm := Lib.hid hm
  clear hm
  go_enter Tryd.func22, Tryd.ntmps22
  go_wp2_with (go_at_call 48; refine (str_Cut59 s _ hs Hm.out).mono ?_; rintro _ w1 ⟨rfl, hx1⟩; have Hx1 := Lib.hid hx1; clear hx1)
  go_ret
  exact ⟨rfl, Hx1.out⟩
end Go.Proofs.YtihdeidaekheoaaDoor
