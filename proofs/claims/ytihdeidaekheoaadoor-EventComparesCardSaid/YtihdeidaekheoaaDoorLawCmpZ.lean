/-
  What is proved here: the law EventCompares returns true, whatever the events. Conditions: no text is longer than a text can be; the library's variables, and the names of the kinds, hold what their text lays.
-/
import Derived.Test.YtihdeidaekheoaaDoorLawCmpA
import Derived.Test.YtihdeidaekheoaaDoorLawCmpB
import Derived.Test.YtihdeidaekheoaaDoorLawCmpC
namespace Go.Proofs.YtihdeidaekheoaaDoor
open Go Go.RowKit Go.Proofs
theorem cmpE_three (a b : Ev) : cmpE a b = -1 ∨ cmpE a b = 0 ∨ cmpE a b = 1 := by
  rcases cmpE_cases a b with ⟨h, _⟩ | ⟨h, _⟩ | ⟨h, _⟩
  · exact .inl h
  · exact .inr (.inl h)
  · exact .inr (.inr h)
theorem law_Cmp (a b c : Ev) (w : World) (hwa : EvWf a) (hwb : EvWf b) (hwc : EvWf c) (hv : Vars w) :
    Calls Tryd.prog 7 #[.agg #[.string a.src, .int .i64 a.num, .int .i64 a.tick, .int .i64 a.kind, .string a.person, .string a.item, .int .i64 a.value, .string a.text], .agg #[.string b.src, .int .i64 b.num, .int .i64 b.tick, .int .i64 b.kind, .string b.person, .string b.item, .int .i64 b.value, .string b.text], .agg #[.string c.src, .int .i64 c.num, .int .i64 c.tick, .int .i64 c.kind, .string c.person, .string c.item, .int .i64 c.value, .string c.text]] w fun r w' => r = .returned (.bool true) ∧ Ext w w' := by
  cases hba : bigE a 1000
  · cases hbb : bigE b 1000
    · cases hbc : bigE c 1000
      · rcases cmpE_cases a b with ⟨x1, x2, x3, x4⟩ | ⟨x1, x2, x3, x4, x5, x6, x7⟩ | ⟨x1, x2, x3, x4⟩
        · rcases cmpE_three b c with y | y | y
          · have hz : cmpE a c = -1 := by have := cmpE_trans (a := a) (b := b) (c := c) (by omega) (by omega); rcases cmpE_three a c with h | h | h <;> omega
            exact law_Cmp_m1 a b c w hwa hwb hwc hv hba hbb hbc x1 x2 x3 x4 y hz
          · have hz : cmpE a c = -1 := by have := cmpE_trans (a := a) (b := b) (c := c) (by omega) (by omega); rcases cmpE_three a c with h | h | h <;> omega
            exact law_Cmp_m2 a b c w hwa hwb hwc hv hba hbb hbc x1 x2 x3 x4 y hz
          · exact law_Cmp_m3 a b c w hwa hwb hwc hv hba hbb hbc (cmpE a c) x1 x2 x3 x4 y rfl
        · have hz := (cmpE_eq x5 x6 x7 c).1
          rcases cmpE_three b c with y | y | y
          · exact law_Cmp_m4 a b c w hwa hwb hwc hv hba hbb hbc x1 x2 x3 x4 y (hz.trans y)
          · exact law_Cmp_m5 a b c w hwa hwb hwc hv hba hbb hbc x1 x2 x3 x4 y (hz.trans y)
          · exact law_Cmp_m6 a b c w hwa hwb hwc hv hba hbb hbc x1 x2 x3 x4 y (hz.trans y)
        · exact law_Cmp_m7 a b c w hwa hwb hwc hv hba hbb hbc (cmpE b c) (cmpE a c) x1 x2 x3 x4 rfl rfl
      · exact law_Cmp_b3 a b c w hwa hwb hwc hv hba hbb hbc
    · exact law_Cmp_b2 a b c w hwa hwb hv hba hbb
  · exact law_Cmp_b1 a b c w hwa hv hba
end Go.Proofs.YtihdeidaekheoaaDoor
