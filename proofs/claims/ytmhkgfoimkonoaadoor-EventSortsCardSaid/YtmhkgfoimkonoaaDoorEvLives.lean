/-
  What is proved here: the law's own example, lives, is true. Condition: the library's variables, and the names of the kinds, hold what their text lays.
-/
import Derived.Test.YtmhkgfoimkonoaaDoorEvFmt
namespace Go.Proofs.YtmhkgfoimkonoaaDoor
open Go Go.RowKit Go.Proofs
attribute [local go_sem ↓] Go.wp_at_zero Go.wp_at_succ

theorem lv_may : mayE (⟨⟨#[97]⟩, 300, 5, 0, ⟨#[112]⟩, ⟨#[113]⟩, 0, ⟨#[]⟩⟩ : Ev) = true := by
  have h1 : nameB ⟨#[97]⟩ = true := by decide +kernel
  have h2 : nameB ⟨#[112]⟩ = true := by decide +kernel
  have h3 : nameB ⟨#[113]⟩ = true := by decide +kernel
  rw [may_head h1 (by decide) (by decide) (by decide) (by decide), tail_a (.inl rfl)]
  show (nameB ⟨#[112]⟩ && nameB ⟨#[113]⟩ && decide ((0 : Int) = 0) && noneB ⟨#[]⟩) = true
  rw [h2, h3]
  decide +kernel
theorem lv_sm : EvSm (⟨⟨#[97]⟩, 300, 5, 0, ⟨#[112]⟩, ⟨#[113]⟩, 0, ⟨#[]⟩⟩ : Ev) := ⟨by decide, by decide, by decide, by decide⟩
theorem lv_enc : encE (⟨⟨#[97]⟩, 300, 5, 0, ⟨#[112]⟩, ⟨#[113]⟩, 0, ⟨#[]⟩⟩ : Ev) = [0, 1, 97, 172, 2, 5, 1, 112, 1, 113, 0, 0] := by
  unfold encE
  show [UInt8.ofNat 0] ++ wordL ⟨#[97]⟩ ++ numL 300 ++ numL 5 ++ wordL ⟨#[112]⟩ ++ wordL ⟨#[113]⟩ ++ numL 0 ++ wordL ⟨#[]⟩ = _
  rw [numL_ge (n := 300) (by decide), numL_lt (n := 300 / 128) (by decide), numL_lt (n := 5) (by decide), numL_lt (n := 0) (by decide)]
  decide +kernel
theorem lv_fmt : fmtE (⟨⟨#[97]⟩, 300, 5, 0, ⟨#[112]⟩, ⟨#[113]⟩, 0, ⟨#[]⟩⟩ : Ev) = ⟨#[97, 32, 51, 48, 48, 32, 53, 32, 115, 101, 101, 110, 32, 112, 32, 113, 32, 48, 32, 46]⟩ := by
  unfold fmtE wordsE
  have h1 : itoaB 300 = ⟨#[51, 48, 48]⟩ := by
    unfold itoaB Lib.itoa
    rw [if_neg (by decide), show Int.toNat 300 = 300 from rfl, Lib.decDigits, dif_neg (by decide), Lib.decDigits, dif_neg (by decide), Lib.decDigits, dif_pos (by decide)]
    decide +kernel
  have h2 : itoaB 5 = ⟨#[53]⟩ := by
    unfold itoaB Lib.itoa
    rw [if_neg (by decide), show Int.toNat 5 = 5 from rfl, Lib.decDigits, dif_pos (by decide)]
    decide +kernel
  have h3 : itoaB 0 = ⟨#[48]⟩ := by
    unfold itoaB Lib.itoa
    rw [if_neg (by decide), show Int.toNat 0 = 0 from rfl, Lib.decDigits, dif_pos (by decide)]
    decide +kernel
  simp only
  rw [h1, h2, h3]
  decide +kernel

set_option maxRecDepth 100000 in
set_option maxHeartbeats 4000000 in
theorem law_lives (w : World) (hv : Vars w) : Calls Tryd.prog 10 #[] w fun e w' => e = .returned (.bool true) ∧ Ext w w' := by
  have Hv := Lib.hid hv
  clear hv
  go_enter Tryd.func10, Tryd.ntmps10
  go_wp2_with fail
  refine (ev_Encode_yes (⟨⟨#[97]⟩, 300, 5, 0, ⟨#[112]⟩, ⟨#[113]⟩, 0, ⟨#[]⟩⟩ : Ev) _ lv_sm (Hv.out.mx.ext ((Keeps.refl _ _).alloc _)) lv_may).mono ?_
  rintro _ w1 ⟨hx1, A, c, m, rfl, hb1⟩
  rw [lv_enc] at hb1
  have hcv := string_of_bts (P := Tryd.prog) w1 47 9 5 A c Tryd.underlying47 Tryd.underlying5 Tryd.underlying9 hb1
  have hg1 := hx1.blk (blk_new w _)
  have r0 := blk_cell hg1 0 rfl
  have r1 := blk_cell hg1 1 rfl
  have r2 := blk_cell hg1 2 rfl
  have r3 := blk_cell hg1 3 rfl
  have r4 := blk_cell hg1 4 rfl
  have r5 := blk_cell hg1 5 rfl
  have r6 := blk_cell hg1 6 rfl
  have r7 := blk_cell hg1 7 rfl
  have Hx1 := Lib.hid (Keeps.trans ((Keeps.refl (fun _ => True) w).alloc _) hx1)
  clear hg1 hx1 hb1
  go_wp2_with (go_at_call 29; refine (ev_Format_yes (⟨⟨#[97]⟩, 300, 5, 0, ⟨#[112]⟩, ⟨#[113]⟩, 0, ⟨#[]⟩⟩ : Ev) _ lv_sm (Hv.out.ext Hx1.out) lv_may).mono ?_; rw [lv_fmt]; rintro _ w2 ⟨rfl, hx2⟩; have Hx2 := Lib.hid (Hx1.out.trans hx2); clear hx2)
  go_ret
  exact ⟨rfl, Hx2.out⟩
end Go.Proofs.YtmhkgfoimkonoaaDoor
