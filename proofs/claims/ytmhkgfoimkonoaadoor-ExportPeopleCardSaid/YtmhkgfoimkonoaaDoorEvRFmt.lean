/-
  What is proved here: the document's Format of an event that may be is the plain function's text. Conditions: the event may be.
-/
import Derived.Test.YtmhkgfoimkonoaaDoorEvKin
import Derived.Deep.RegionHeld3
import Derived.Deep.DeepCutAuto
namespace Go.Proofs.YtmhkgfoimkonoaaDoor
open Go Go.RowKit Go.Proofs
attribute [local go_sem ↓] Go.wp_at_zero Go.wp_at_succ
theorem ext_rule2 {X W : World} (h : Ext X W) : ∀ b o, b < X.heap.size → W.cell? ⟨b, o, none⟩ = X.cell? ⟨b, o, none⟩ := fun b o hb => h.cell (p := ⟨b, o, none⟩) hb trivial
theorem wpAnyH_strong {P : Program} {md : Region.Mode} {ops : Array Oper} {Q : Exit → Act → World → Prop} {S S' : World → Prop} (hs : ∀ w, S' w → S w) : ∀ (fuel : Nat) (listed : Array Bool) (a : Act) (w : World), wpAnyH P md ops Q S' fuel listed a w → wpAnyH P md ops Q S fuel listed a w
  | 0, _, _, _, h => h
  | fuel + 1, _, _, _, h => ⟨h.1, fun i hi => wpOp_mono (fun a' w' h' => ⟨hs _ h'.1, wpAnyH_strong hs fuel _ a' w' h'.2⟩) (h.2 i hi)⟩
theorem cat_list (a b : ByteArray) : (a ++ b).data.toList = a.data.toList ++ b.data.toList := by simp
theorem cat_join (a b c d e f g h : ByteArray) : a ++ ⟨#[32]⟩ ++ b ++ ⟨#[32]⟩ ++ c ++ ⟨#[32]⟩ ++ d ++ ⟨#[32]⟩ ++ e ++ ⟨#[32]⟩ ++ f ++ ⟨#[32]⟩ ++ g ++ ⟨#[32]⟩ ++ h = ⟨(Lib.join ([a, b, c, d, e, f, g, h].map (·.data.toList)) [32]).toArray⟩ := by
  apply ByteArray.ext
  apply Array.ext'
  simp [Lib.join, List.intercalate]
set_option maxRecDepth 100000 in
set_option maxHeartbeats 4000000 in
theorem ref_Format' (src person item text : ByteArray) (num tick value : Int) (kk : Nat) (w : World) (h : mayE (⟨src, num, tick, (kk : Int), person, item, value, text⟩ : Ev) = true) :
    Calls Tryd.prog 49 #[.agg #[.string src, .int .i64 num, .int .i64 tick, .int .i64 (kk : Int), .string person, .string item, .int .i64 value, .string text]] w fun r w' => r = .returned (.string (fmtE (⟨src, num, tick, (kk : Int), person, item, value, text⟩ : Ev))) ∧ Ext w w' := by
  have hF := mayF h
  have hk1 : (kk : Int) ≤ 14 := hF.kind1
  have hkl : kk < 15 := by omega
  obtain ⟨nm, hnm⟩ : ∃ nm, kindsB[kk]? = some nm := ⟨_, List.getElem?_eq_getElem hkl⟩
  have hn0 : 0 ≤ num := hF.num00
  have hn1 : num ≤ 1099511627776 := hF.num1
  have ht0 : 0 ≤ tick := hF.tick0
  have ht1 : tick ≤ 1099511627776 := hF.tick1
  have hv0 : 0 ≤ value := hF.value0
  have hv1 : value ≤ 1099511627776 := hF.value11
  have k0 : (0 : Int) ≤ (kk : Int) := by omega
  have k1 : (kk : Int) < 15 := by omega
  have Hw := Lib.hid (show wordsE (⟨src, num, tick, (kk : Int), person, item, value, text⟩ : Ev) = [src, itoaB num, itoaB tick, nm, person, item, itoaB value, text] by
    unfold wordsE; simp only [Int.toNat_natCast, List.getD_eq_getElem?_getD, hnm]; rfl)
  have Hd := Lib.hid (show dotB src = src ∧ dotB (itoaB num) = itoaB num ∧ dotB (itoaB tick) = itoaB tick ∧ dotB nm = nm ∧ dotB (itoaB value) = itoaB value from ⟨dot_name hF.src, dot_itoa hn0, dot_itoa ht0, (by have := dot_kind hkl; rw [List.getD_eq_getElem?_getD, hnm] at this; exact this), dot_itoa hv0⟩)
  have z1 : src.size ≤ 24 := (nameB_size hF.src).2
  have z2 : person.size ≤ 24 := hF.psize
  have z3 : item.size ≤ 24 := hF.isize
  have z4 : text.size ≤ 224 := hF.tsize
  have hi : ∀ n : Int, (itoaB n).size = (Lib.itoa n).length := fun n => by show (Lib.itoa n).toArray.size = _; simp
  have z5 : (itoaB num).size ≤ 1000 := by rw [hi]; exact itoa_len num hn0 hn1
  have z6 : (itoaB tick).size ≤ 1000 := by rw [hi]; exact itoa_len tick ht0 ht1
  have z7 : (itoaB value).size ≤ 1000 := by rw [hi]; exact itoa_len value hv0 hv1
  have z8 : nm.size ≤ 10 := kindsB_size nm (List.mem_of_getElem? hnm)
  have z9 := dotB_size person
  have z10 := dotB_size item
  have z11 := dotB_size text
  obtain ⟨S1, hS1⟩ : ∃ s, s = itoaB num := ⟨_, rfl⟩
  obtain ⟨S2, hS2⟩ : ∃ s, s = itoaB tick := ⟨_, rfl⟩
  obtain ⟨S3, hS3⟩ : ∃ s, s = itoaB value := ⟨_, rfl⟩
  obtain ⟨P1, hP1⟩ : ∃ s, s = dotB person := ⟨_, rfl⟩
  obtain ⟨P2, hP2⟩ : ∃ s, s = dotB item := ⟨_, rfl⟩
  obtain ⟨P3, hP3⟩ : ∃ s, s = dotB text := ⟨_, rfl⟩
  have C1 := Lib.hid (fun W : World => show Calls Tryd.prog 75 #[.int .i64 num] W (fun e w' => e = .returned (.string S1) ∧ Ext W w') by rw [hS1]; exact ref_Digits num hn0 hn1 W)
  have C2 := Lib.hid (fun W : World => show Calls Tryd.prog 75 #[.int .i64 tick] W (fun e w' => e = .returned (.string S2) ∧ Ext W w') by rw [hS2]; exact ref_Digits tick ht0 ht1 W)
  have C3 := Lib.hid (fun W : World => show Calls Tryd.prog 75 #[.int .i64 value] W (fun e w' => e = .returned (.string S3) ∧ Ext W w') by rw [hS3]; exact ref_Digits value hv0 hv1 W)
  have C4 := Lib.hid (fun W : World => show Calls Tryd.prog 76 #[.string person] W (fun e w' => e = .returned (.string P1) ∧ W = w') by rw [hP1]; exact ref_some person W)
  have C5 := Lib.hid (fun W : World => show Calls Tryd.prog 76 #[.string item] W (fun e w' => e = .returned (.string P2) ∧ W = w') by rw [hP2]; exact ref_some item W)
  have C6 := Lib.hid (fun W : World => show Calls Tryd.prog 76 #[.string text] W (fun e w' => e = .returned (.string P3) ∧ W = w') by rw [hP3]; exact ref_some text W)
  rw [← hS1, ← hS2, ← hS3] at Hw Hd
  rw [← hS1] at z5
  rw [← hS2] at z6
  rw [← hS3] at z7
  rw [← hP1] at z9
  rw [← hP2] at z10
  rw [← hP3] at z11
  have HP := Lib.hid (And.intro hP1 (And.intro hP2 hP3))
  have Hnm := Lib.hid (show ((kindsB.map Value.string).toArray)[kk]? = some (.string nm) by simp [hnm])
  have q1 : ¬ (9223372036854775807 < src.size + 1) := by omega
  have q2 : ¬ (9223372036854775807 < src.size + 1 + S1.size) := by omega
  have q3 : ¬ (9223372036854775807 < src.size + 1 + S1.size + 1) := by omega
  have q4 : ¬ (9223372036854775807 < src.size + 1 + S1.size + 1 + S2.size) := by omega
  have q5 : ¬ (9223372036854775807 < src.size + 1 + S1.size + 1 + S2.size + 1) := by omega
  have q6 : ¬ (9223372036854775807 < src.size + 1 + S1.size + 1 + S2.size + 1 + nm.size) := by omega
  have q7 : ¬ (9223372036854775807 < src.size + 1 + S1.size + 1 + S2.size + 1 + nm.size + 1) := by omega
  have q8 : ¬ (9223372036854775807 < src.size + 1 + S1.size + 1 + S2.size + 1 + nm.size + 1 + P1.size) := by omega
  have q9 : ¬ (9223372036854775807 < src.size + 1 + S1.size + 1 + S2.size + 1 + nm.size + 1 + P1.size + 1) := by omega
  have q10 : ¬ (9223372036854775807 < src.size + 1 + S1.size + 1 + S2.size + 1 + nm.size + 1 + P1.size + 1 + P2.size) := by omega
  have q11 : ¬ (9223372036854775807 < src.size + 1 + S1.size + 1 + S2.size + 1 + nm.size + 1 + P1.size + 1 + P2.size + 1) := by omega
  have q12 : ¬ (9223372036854775807 < src.size + 1 + S1.size + 1 + S2.size + 1 + nm.size + 1 + P1.size + 1 + P2.size + 1 + S3.size) := by omega
  have q13 : ¬ (9223372036854775807 < src.size + 1 + S1.size + 1 + S2.size + 1 + nm.size + 1 + P1.size + 1 + P2.size + 1 + S3.size + 1) := by omega
  have q14 : ¬ (9223372036854775807 < src.size + 1 + S1.size + 1 + S2.size + 1 + nm.size + 1 + P1.size + 1 + P2.size + 1 + S3.size + 1 + P3.size) := by omega
  clear hF hnm hkl hi hS1 hS2 hS3 hP1 hP2 hP3 z1 z2 z3 z4 z5 z6 z7 z8 z9 z10 z11 h
  go_enter Tryd.func49, Tryd.ntmps49
  go_wp2_with fail
  have hg1 := blk_new w (.cells #[.string src, .int .i64 num, .int .i64 tick, .int .i64 (kk : Int), .string person, .string item, .int .i64 value, .string text] 30)
  have hxX : Ext w (w.alloc (.cells #[.string src, .int .i64 num, .int .i64 tick, .int .i64 (kk : Int), .string person, .string item, .int .i64 value, .string text] 30)) := (Keeps.refl _ _).alloc _
  generalize w.alloc (.cells #[.string src, .int .i64 num, .int .i64 tick, .int .i64 (kk : Int), .string person, .string item, .int .i64 value, .string text] 30) = X at *
  have wsz : w.heap.size < X.heap.size := (Array.getElem?_eq_some_iff.1 hg1).1
  have d0 := blk_cell hg1 0 rfl
  have d1 := blk_cell hg1 1 rfl
  have d2 := blk_cell hg1 2 rfl
  have d3 := blk_cell hg1 3 rfl
  have d4 := blk_cell hg1 4 rfl
  have d5 := blk_cell hg1 5 rfl
  have d6 := blk_cell hg1 6 rfl
  have d7 := blk_cell hg1 7 rfl
  have HX := Lib.hid hxX
  clear hg1 hxX
  go_cut [2] (fun s2 wc => s2 = .string (src ++ ⟨#[32]⟩ ++ S1 ++ ⟨#[32]⟩ ++ S2 ++ ⟨#[32]⟩ ++ nm ++ ⟨#[32]⟩ ++ P1 ++ ⟨#[32]⟩ ++ P2 ++ ⟨#[32]⟩ ++ S3 ++ ⟨#[32]⟩ ++ P3) ∧ Ext X wc)
  case first =>
    refine wp_region_noPanic ?_
    refine wp_region_held_drew (S := fun w' => X.heap.size ≤ w'.heap.size ∧ ∀ p : Addr, p.block < X.heap.size → w'.cell? p = X.cell? p) (by kernel_rfl) ?_ (fun hHeld => ?_)
    · exact (Old.refl X).drew
    refine wpAnyH_take (i := 0) (oi := { dst := some 3, op := Go.Op.fieldAddr 30 (Go.Operand.tmp 1) 0, type := 0, pos := "ref.go:296", after := #[], guard := none }) (v := ?_) rfl (by kernel_rfl) (by kernel_rfl) (by kernel_rfl) (fun _ _ _ h => h) (Or.inl ⟨by rfl, ?_⟩) (by assumption) ?_
    rotate_left
    · intro w hSw
      (try dsimp only at hSw)
      go_simp
      all_goals (with_reducible rfl)
    try simp only [Act.put, List.setIfInBounds_toArray, List.set_cons_zero, List.set_cons_succ]
    refine wpAnyH_take (i := 1) (oi := { dst := some 4, op := Go.Op.load 9 (Go.Operand.tmp 3), type := 9, pos := "ref.go:296", after := #[{ on := 0, ground := Go.Ground.data }], guard := none }) (v := ?_) rfl (by kernel_rfl) (by kernel_rfl) (by kernel_rfl) (fun _ _ _ h => h) (Or.inl ⟨by rfl, ?_⟩) (by assumption) ?_
    rotate_left
    · intro w hSw
      (try dsimp only at hSw)
      go_simp
      all_goals (with_reducible rfl)
    try simp only [Act.put, List.setIfInBounds_toArray, List.set_cons_zero, List.set_cons_succ]
    refine wpAnyH_take (i := 2) (oi := { dst := some 5, op := Go.Op.binOp Go.BinOp.add 9 (Go.Operand.tmp 4) (Go.Operand.const (Go.Value.string { data := #[32] })) 9, type := 9, pos := "ref.go:296", after := #[{ on := 1, ground := Go.Ground.data }], guard := none }) (v := ?_) rfl (by kernel_rfl) (by kernel_rfl) (by kernel_rfl) (fun _ _ _ h => h) (Or.inl ⟨by rfl, ?_⟩) (by assumption) ?_
    rotate_left
    · intro w hSw
      (try dsimp only at hSw)
      go_simp
      all_goals (with_reducible rfl)
    try simp only [Act.put, List.setIfInBounds_toArray, List.set_cons_zero, List.set_cons_succ]
    refine wpAnyH_take (i := 3) (oi := { dst := some 6, op := Go.Op.fieldAddr 30 (Go.Operand.tmp 1) 1, type := 0, pos := "ref.go:296", after := #[], guard := none }) (v := ?_) rfl (by kernel_rfl) (by kernel_rfl) (by kernel_rfl) (fun _ _ _ h => h) (Or.inl ⟨by rfl, ?_⟩) (by assumption) ?_
    rotate_left
    · intro w hSw
      (try dsimp only at hSw)
      go_simp
      all_goals (with_reducible rfl)
    try simp only [Act.put, List.setIfInBounds_toArray, List.set_cons_zero, List.set_cons_succ]
    refine wpAnyH_take (i := 4) (oi := { dst := some 7, op := Go.Op.load 3 (Go.Operand.tmp 6), type := 3, pos := "ref.go:296", after := #[{ on := 3, ground := Go.Ground.data }], guard := none }) (v := ?_) rfl (by kernel_rfl) (by kernel_rfl) (by kernel_rfl) (fun _ _ _ h => h) (Or.inl ⟨by rfl, ?_⟩) (by assumption) ?_
    rotate_left
    · intro w hSw
      (try dsimp only at hSw)
      go_simp
      all_goals (with_reducible rfl)
    try simp only [Act.put, List.setIfInBounds_toArray, List.set_cons_zero, List.set_cons_succ]
    refine wpAnyH_take (i := 8) (oi := { dst := some 11, op := Go.Op.fieldAddr 30 (Go.Operand.tmp 1) 2, type := 0, pos := "ref.go:296", after := #[], guard := none }) (v := ?_) rfl (by kernel_rfl) (by kernel_rfl) (by kernel_rfl) (fun _ _ _ h => h) (Or.inl ⟨by rfl, ?_⟩) (by assumption) ?_
    rotate_left
    · intro w hSw
      (try dsimp only at hSw)
      go_simp
      all_goals (with_reducible rfl)
    try simp only [Act.put, List.setIfInBounds_toArray, List.set_cons_zero, List.set_cons_succ]
    refine wpAnyH_take (i := 9) (oi := { dst := some 12, op := Go.Op.load 3 (Go.Operand.tmp 11), type := 3, pos := "ref.go:296", after := #[{ on := 8, ground := Go.Ground.data }], guard := none }) (v := ?_) rfl (by kernel_rfl) (by kernel_rfl) (by kernel_rfl) (fun _ _ _ h => h) (Or.inl ⟨by rfl, ?_⟩) (by assumption) ?_
    rotate_left
    · intro w hSw
      (try dsimp only at hSw)
      go_simp
      all_goals (with_reducible rfl)
    try simp only [Act.put, List.setIfInBounds_toArray, List.set_cons_zero, List.set_cons_succ]
    refine wpAnyH_take (i := 14) (oi := { dst := some 17, op := Go.Op.fieldAddr 30 (Go.Operand.tmp 1) 3, type := 0, pos := "ref.go:296", after := #[], guard := none }) (v := ?_) rfl (by kernel_rfl) (by kernel_rfl) (by kernel_rfl) (fun _ _ _ h => h) (Or.inl ⟨by rfl, ?_⟩) (by assumption) ?_
    rotate_left
    · intro w hSw
      (try dsimp only at hSw)
      go_simp
      all_goals (with_reducible rfl)
    try simp only [Act.put, List.setIfInBounds_toArray, List.set_cons_zero, List.set_cons_succ]
    refine wpAnyH_take (i := 15) (oi := { dst := some 18, op := Go.Op.load 28 (Go.Operand.tmp 17), type := 28, pos := "ref.go:296", after := #[{ on := 14, ground := Go.Ground.data }], guard := none }) (v := ?_) rfl (by kernel_rfl) (by kernel_rfl) (by kernel_rfl) (fun _ _ _ h => h) (Or.inl ⟨by rfl, ?_⟩) (by assumption) ?_
    rotate_left
    · intro w hSw
      (try dsimp only at hSw)
      go_simp
      all_goals (with_reducible rfl)
    try simp only [Act.put, List.setIfInBounds_toArray, List.set_cons_zero, List.set_cons_succ]
    refine wpAnyH_take (i := 20) (oi := { dst := some 23, op := Go.Op.fieldAddr 30 (Go.Operand.tmp 1) 4, type := 0, pos := "ref.go:296", after := #[], guard := none }) (v := ?_) rfl (by kernel_rfl) (by kernel_rfl) (by kernel_rfl) (fun _ _ _ h => h) (Or.inl ⟨by rfl, ?_⟩) (by assumption) ?_
    rotate_left
    · intro w hSw
      (try dsimp only at hSw)
      go_simp
      all_goals (with_reducible rfl)
    try simp only [Act.put, List.setIfInBounds_toArray, List.set_cons_zero, List.set_cons_succ]
    refine wpAnyH_take (i := 21) (oi := { dst := some 24, op := Go.Op.load 9 (Go.Operand.tmp 23), type := 9, pos := "ref.go:296", after := #[{ on := 20, ground := Go.Ground.data }], guard := none }) (v := ?_) rfl (by kernel_rfl) (by kernel_rfl) (by kernel_rfl) (fun _ _ _ h => h) (Or.inl ⟨by rfl, ?_⟩) (by assumption) ?_
    rotate_left
    · intro w hSw
      (try dsimp only at hSw)
      go_simp
      all_goals (with_reducible rfl)
    try simp only [Act.put, List.setIfInBounds_toArray, List.set_cons_zero, List.set_cons_succ]
    refine wpAnyH_take (i := 25) (oi := { dst := some 28, op := Go.Op.fieldAddr 30 (Go.Operand.tmp 1) 5, type := 0, pos := "ref.go:296", after := #[], guard := none }) (v := ?_) rfl (by kernel_rfl) (by kernel_rfl) (by kernel_rfl) (fun _ _ _ h => h) (Or.inl ⟨by rfl, ?_⟩) (by assumption) ?_
    rotate_left
    · intro w hSw
      (try dsimp only at hSw)
      go_simp
      all_goals (with_reducible rfl)
    try simp only [Act.put, List.setIfInBounds_toArray, List.set_cons_zero, List.set_cons_succ]
    refine wpAnyH_take (i := 26) (oi := { dst := some 29, op := Go.Op.load 9 (Go.Operand.tmp 28), type := 9, pos := "ref.go:296", after := #[{ on := 25, ground := Go.Ground.data }], guard := none }) (v := ?_) rfl (by kernel_rfl) (by kernel_rfl) (by kernel_rfl) (fun _ _ _ h => h) (Or.inl ⟨by rfl, ?_⟩) (by assumption) ?_
    rotate_left
    · intro w hSw
      (try dsimp only at hSw)
      go_simp
      all_goals (with_reducible rfl)
    try simp only [Act.put, List.setIfInBounds_toArray, List.set_cons_zero, List.set_cons_succ]
    refine wpAnyH_take (i := 30) (oi := { dst := some 33, op := Go.Op.fieldAddr 30 (Go.Operand.tmp 1) 6, type := 0, pos := "ref.go:296", after := #[], guard := none }) (v := ?_) rfl (by kernel_rfl) (by kernel_rfl) (by kernel_rfl) (fun _ _ _ h => h) (Or.inl ⟨by rfl, ?_⟩) (by assumption) ?_
    rotate_left
    · intro w hSw
      (try dsimp only at hSw)
      go_simp
      all_goals (with_reducible rfl)
    try simp only [Act.put, List.setIfInBounds_toArray, List.set_cons_zero, List.set_cons_succ]
    refine wpAnyH_take (i := 31) (oi := { dst := some 34, op := Go.Op.load 3 (Go.Operand.tmp 33), type := 3, pos := "ref.go:296", after := #[{ on := 30, ground := Go.Ground.data }], guard := none }) (v := ?_) rfl (by kernel_rfl) (by kernel_rfl) (by kernel_rfl) (fun _ _ _ h => h) (Or.inl ⟨by rfl, ?_⟩) (by assumption) ?_
    rotate_left
    · intro w hSw
      (try dsimp only at hSw)
      go_simp
      all_goals (with_reducible rfl)
    try simp only [Act.put, List.setIfInBounds_toArray, List.set_cons_zero, List.set_cons_succ]
    refine wpAnyH_take (i := 35) (oi := { dst := some 38, op := Go.Op.fieldAddr 30 (Go.Operand.tmp 1) 7, type := 0, pos := "ref.go:296", after := #[], guard := none }) (v := ?_) rfl (by kernel_rfl) (by kernel_rfl) (by kernel_rfl) (fun _ _ _ h => h) (Or.inl ⟨by rfl, ?_⟩) (by assumption) ?_
    rotate_left
    · intro w hSw
      (try dsimp only at hSw)
      go_simp
      all_goals (with_reducible rfl)
    try simp only [Act.put, List.setIfInBounds_toArray, List.set_cons_zero, List.set_cons_succ]
    refine wpAnyH_take (i := 36) (oi := { dst := some 39, op := Go.Op.load 9 (Go.Operand.tmp 38), type := 9, pos := "ref.go:296", after := #[{ on := 35, ground := Go.Ground.data }], guard := none }) (v := ?_) rfl (by kernel_rfl) (by kernel_rfl) (by kernel_rfl) (fun _ _ _ h => h) (Or.inl ⟨by rfl, ?_⟩) (by assumption) ?_
    rotate_left
    · intro w hSw
      (try dsimp only at hSw)
      go_simp
      all_goals (with_reducible rfl)
    try simp only [Act.put, List.setIfInBounds_toArray, List.set_cons_zero, List.set_cons_succ]
    refine wpAnyH_ready (rs := [5]) (by kernel_rfl) (by simp) ?_
    refine AllReadyH.cons (o := { dst := some 8, op := Go.Op.call { callee := Go.Callee.value (Go.Operand.func 75), args := #[Go.Operand.tmp 7], argTypes := #[3] }, type := 9, pos := "ref.go:296", after := #[{ on := 4, ground := Go.Ground.data }], guard := none }) rfl (fun K hK => ?_) AllReadyH.nil
    go_simp
    refine (C1.out _).mono ?_
    rintro _ w4 ⟨rfl, hx4⟩
    have hy : Ext X w4 := Keeps.trans (by repeat (first | assumption | with_reducible exact Keeps.refl _ _ | with_reducible refine Keeps.drew ?_ | with_reducible refine Keeps.alloc ?_ _)) hx4
    clear hx4
    refine hK.out _ _ ?_ (fun hHeld => ?_)
    · exact Old.of_ext hy
    clear hK K
    try simp only [Act.put, List.setIfInBounds_toArray, List.set_cons_zero, List.set_cons_succ]
    refine wpAnyH_take (i := 6) (oi := { dst := some 9, op := Go.Op.binOp Go.BinOp.add 9 (Go.Operand.tmp 5) (Go.Operand.tmp 8) 9, type := 9, pos := "ref.go:296", after := #[{ on := 2, ground := Go.Ground.data }, { on := 5, ground := Go.Ground.data }], guard := none }) (v := ?_) rfl (by kernel_rfl) (by kernel_rfl) (by kernel_rfl) (fun _ _ _ h => h) (Or.inl ⟨by rfl, ?_⟩) (by assumption) ?_
    rotate_left
    · intro w hSw
      (try dsimp only at hSw)
      go_simp
      all_goals (with_reducible rfl)
    try simp only [Act.put, List.setIfInBounds_toArray, List.set_cons_zero, List.set_cons_succ]
    refine wpAnyH_take (i := 7) (oi := { dst := some 10, op := Go.Op.binOp Go.BinOp.add 9 (Go.Operand.tmp 9) (Go.Operand.const (Go.Value.string { data := #[32] })) 9, type := 9, pos := "ref.go:296", after := #[{ on := 6, ground := Go.Ground.data }], guard := none }) (v := ?_) rfl (by kernel_rfl) (by kernel_rfl) (by kernel_rfl) (fun _ _ _ h => h) (Or.inl ⟨by rfl, ?_⟩) (by assumption) ?_
    rotate_left
    · intro w hSw
      (try dsimp only at hSw)
      go_simp
      all_goals (with_reducible rfl)
    try simp only [Act.put, List.setIfInBounds_toArray, List.set_cons_zero, List.set_cons_succ]
    refine wpAnyH_ready (rs := [10]) (by kernel_rfl) (by simp) ?_
    refine AllReadyH.cons (o := { dst := some 13, op := Go.Op.call { callee := Go.Callee.value (Go.Operand.func 75), args := #[Go.Operand.tmp 12], argTypes := #[3] }, type := 9, pos := "ref.go:296", after := #[{ on := 9, ground := Go.Ground.data }, { on := 5, ground := Go.Ground.chain }], guard := none }) rfl (fun K hK => ?_) AllReadyH.nil
    go_simp
    refine (C2.out _).mono ?_
    rintro _ w5 ⟨rfl, hx5⟩
    have hz : Ext X w5 := Keeps.trans (by repeat (first | assumption | with_reducible exact Keeps.refl _ _ | with_reducible refine Keeps.drew ?_ | with_reducible refine Keeps.alloc ?_ _)) hx5
    clear hx5
    refine hK.out _ _ ?_ (fun hHeld => ?_)
    · exact Old.of_ext hz
    clear hK K
    try simp only [Act.put, List.setIfInBounds_toArray, List.set_cons_zero, List.set_cons_succ]
    refine wpAnyH_take (i := 11) (oi := { dst := some 14, op := Go.Op.binOp Go.BinOp.add 9 (Go.Operand.tmp 10) (Go.Operand.tmp 13) 9, type := 9, pos := "ref.go:296", after := #[{ on := 7, ground := Go.Ground.data }, { on := 10, ground := Go.Ground.data }], guard := none }) (v := ?_) rfl (by kernel_rfl) (by kernel_rfl) (by kernel_rfl) (fun _ _ _ h => h) (Or.inl ⟨by rfl, ?_⟩) (by assumption) ?_
    rotate_left
    · intro w hSw
      (try dsimp only at hSw)
      go_simp
      all_goals (with_reducible rfl)
    try simp only [Act.put, List.setIfInBounds_toArray, List.set_cons_zero, List.set_cons_succ]
    refine wpAnyH_take (i := 12) (oi := { dst := some 15, op := Go.Op.binOp Go.BinOp.add 9 (Go.Operand.tmp 14) (Go.Operand.const (Go.Value.string { data := #[32] })) 9, type := 9, pos := "ref.go:296", after := #[{ on := 11, ground := Go.Ground.data }], guard := none }) (v := ?_) rfl (by kernel_rfl) (by kernel_rfl) (by kernel_rfl) (fun _ _ _ h => h) (Or.inl ⟨by rfl, ?_⟩) (by assumption) ?_
    rotate_left
    · intro w hSw
      (try dsimp only at hSw)
      go_simp
      all_goals (with_reducible rfl)
    try simp only [Act.put, List.setIfInBounds_toArray, List.set_cons_zero, List.set_cons_succ]
    refine wpAnyH_ready (rs := [13]) (by kernel_rfl) (by simp) ?_
    refine AllReadyH.cons (o := { dst := some 16, op := Go.Op.call { callee := Go.Callee.value (Go.Operand.func 72), args := #[], argTypes := #[] }, type := 45, pos := "ref.go:296", after := #[{ on := 10, ground := Go.Ground.chain }], guard := none }) rfl (fun K hK => ?_) AllReadyH.nil
    go_simp
    refine (ref_Kinds _).mono ?_
    rintro _ w6 ⟨gK, rfl, hgK, _, hx6⟩
    have hu : Ext X w6 := Keeps.trans (by repeat (first | assumption | with_reducible exact Keeps.refl _ _ | with_reducible refine Keeps.drew ?_ | with_reducible refine Keeps.alloc ?_ _)) hx6
    have cK := blk_cell hgK kk Hnm.out
    have gKs := (Array.getElem?_eq_some_iff.1 hgK).1
    have HgK := Lib.hid hgK
    clear hx6 hgK
    refine hK.out _ _ ?_ (fun hHeld => ?_)
    · exact Old.of_ext hu
    clear hK K
    try simp only [Act.put, List.setIfInBounds_toArray, List.set_cons_zero, List.set_cons_succ]
    refine wpAnyH_strong (S' := fun w' => (X.heap.size ≤ w'.heap.size ∧ ∀ p : Addr, p.block < X.heap.size → w'.cell? p = X.cell? p) ∧ w'.cell? ⟨gK, kk, none⟩ = some (.string nm)) (fun _ h => h.1) _ _ _ _ ?_
    have hHeld2 : (X.heap.size ≤ w6.heap.size ∧ ∀ p : Addr, p.block < X.heap.size → w6.cell? p = X.cell? p) ∧ w6.cell? ⟨gK, kk, none⟩ = some (.string nm) := ⟨Old.of_ext hu, cK⟩
    refine wpAnyH_take (i := 16) (oi := { dst := some 19, op := Go.Op.indexAddr 45 (Go.Operand.tmp 16) (Go.Operand.tmp 18), type := 0, pos := "ref.go:296", after := #[{ on := 13, ground := Go.Ground.data }, { on := 15, ground := Go.Ground.data }], guard := none }) (v := ?_) rfl (by kernel_rfl) (by kernel_rfl) (by kernel_rfl) (fun _ _ _ h => h) (Or.inl ⟨by rfl, ?_⟩) (by assumption) ?_
    rotate_left
    · intro w hSw
      (try dsimp only at hSw)
      go_simp
      all_goals (with_reducible rfl)
    try simp only [Act.put, List.setIfInBounds_toArray, List.set_cons_zero, List.set_cons_succ]
    refine wpAnyH_take (i := 17) (oi := { dst := some 20, op := Go.Op.load 9 (Go.Operand.tmp 19), type := 9, pos := "ref.go:296", after := #[{ on := 16, ground := Go.Ground.data }], guard := none }) (v := ?_) rfl (by kernel_rfl) (by kernel_rfl) (by kernel_rfl) (fun _ _ _ h => h) (Or.inl ⟨by rfl, ?_⟩) (by assumption) ?_
    rotate_left
    · intro w hSw
      (try dsimp only at hSw)
      go_simp
      all_goals (with_reducible rfl)
    try simp only [Act.put, List.setIfInBounds_toArray, List.set_cons_zero, List.set_cons_succ]
    refine wpAnyH_take (i := 18) (oi := { dst := some 21, op := Go.Op.binOp Go.BinOp.add 9 (Go.Operand.tmp 15) (Go.Operand.tmp 20) 9, type := 9, pos := "ref.go:296", after := #[{ on := 12, ground := Go.Ground.data }, { on := 17, ground := Go.Ground.data }], guard := none }) (v := ?_) rfl (by kernel_rfl) (by kernel_rfl) (by kernel_rfl) (fun _ _ _ h => h) (Or.inl ⟨by rfl, ?_⟩) (by assumption) ?_
    rotate_left
    · intro w hSw
      (try dsimp only at hSw)
      go_simp
      all_goals (with_reducible rfl)
    try simp only [Act.put, List.setIfInBounds_toArray, List.set_cons_zero, List.set_cons_succ]
    refine wpAnyH_take (i := 19) (oi := { dst := some 22, op := Go.Op.binOp Go.BinOp.add 9 (Go.Operand.tmp 21) (Go.Operand.const (Go.Value.string { data := #[32] })) 9, type := 9, pos := "ref.go:296", after := #[{ on := 18, ground := Go.Ground.data }], guard := none }) (v := ?_) rfl (by kernel_rfl) (by kernel_rfl) (by kernel_rfl) (fun _ _ _ h => h) (Or.inl ⟨by rfl, ?_⟩) (by assumption) ?_
    rotate_left
    · intro w hSw
      (try dsimp only at hSw)
      go_simp
      all_goals (with_reducible rfl)
    try simp only [Act.put, List.setIfInBounds_toArray, List.set_cons_zero, List.set_cons_succ]
    refine wpAnyH_ready (rs := [22]) (by kernel_rfl) (by simp) ?_
    refine AllReadyH.cons (o := { dst := some 25, op := Go.Op.call { callee := Go.Callee.value (Go.Operand.func 76), args := #[Go.Operand.tmp 24], argTypes := #[9] }, type := 9, pos := "ref.go:296", after := #[{ on := 21, ground := Go.Ground.data }, { on := 13, ground := Go.Ground.chain }], guard := none }) rfl (fun K hK => ?_) AllReadyH.nil
    go_simp
    refine (C4.out _).mono ?_
    rintro _ _ ⟨rfl, rfl⟩
    refine hK.out _ _ ?_ (fun hHeld => ?_)
    · exact hHeld2
    clear hK K
    try simp only [Act.put, List.setIfInBounds_toArray, List.set_cons_zero, List.set_cons_succ]
    refine wpAnyH_take (i := 23) (oi := { dst := some 26, op := Go.Op.binOp Go.BinOp.add 9 (Go.Operand.tmp 22) (Go.Operand.tmp 25) 9, type := 9, pos := "ref.go:296", after := #[{ on := 19, ground := Go.Ground.data }, { on := 22, ground := Go.Ground.data }], guard := none }) (v := ?_) rfl (by kernel_rfl) (by kernel_rfl) (by kernel_rfl) (fun _ _ _ h => h) (Or.inl ⟨by rfl, ?_⟩) (by assumption) ?_
    rotate_left
    · intro w hSw
      (try dsimp only at hSw)
      go_simp
      all_goals (with_reducible rfl)
    try simp only [Act.put, List.setIfInBounds_toArray, List.set_cons_zero, List.set_cons_succ]
    refine wpAnyH_take (i := 24) (oi := { dst := some 27, op := Go.Op.binOp Go.BinOp.add 9 (Go.Operand.tmp 26) (Go.Operand.const (Go.Value.string { data := #[32] })) 9, type := 9, pos := "ref.go:296", after := #[{ on := 23, ground := Go.Ground.data }], guard := none }) (v := ?_) rfl (by kernel_rfl) (by kernel_rfl) (by kernel_rfl) (fun _ _ _ h => h) (Or.inl ⟨by rfl, ?_⟩) (by assumption) ?_
    rotate_left
    · intro w hSw
      (try dsimp only at hSw)
      go_simp
      all_goals (with_reducible rfl)
    try simp only [Act.put, List.setIfInBounds_toArray, List.set_cons_zero, List.set_cons_succ]
    refine wpAnyH_ready (rs := [27]) (by kernel_rfl) (by simp) ?_
    refine AllReadyH.cons (o := { dst := some 30, op := Go.Op.call { callee := Go.Callee.value (Go.Operand.func 76), args := #[Go.Operand.tmp 29], argTypes := #[9] }, type := 9, pos := "ref.go:296", after := #[{ on := 26, ground := Go.Ground.data }, { on := 22, ground := Go.Ground.chain }], guard := none }) rfl (fun K hK => ?_) AllReadyH.nil
    go_simp
    refine (C5.out _).mono ?_
    rintro _ _ ⟨rfl, rfl⟩
    refine hK.out _ _ ?_ (fun hHeld => ?_)
    · exact hHeld2
    clear hK K
    try simp only [Act.put, List.setIfInBounds_toArray, List.set_cons_zero, List.set_cons_succ]
    refine wpAnyH_take (i := 28) (oi := { dst := some 31, op := Go.Op.binOp Go.BinOp.add 9 (Go.Operand.tmp 27) (Go.Operand.tmp 30) 9, type := 9, pos := "ref.go:296", after := #[{ on := 24, ground := Go.Ground.data }, { on := 27, ground := Go.Ground.data }], guard := none }) (v := ?_) rfl (by kernel_rfl) (by kernel_rfl) (by kernel_rfl) (fun _ _ _ h => h) (Or.inl ⟨by rfl, ?_⟩) (by assumption) ?_
    rotate_left
    · intro w hSw
      (try dsimp only at hSw)
      go_simp
      all_goals (with_reducible rfl)
    try simp only [Act.put, List.setIfInBounds_toArray, List.set_cons_zero, List.set_cons_succ]
    refine wpAnyH_take (i := 29) (oi := { dst := some 32, op := Go.Op.binOp Go.BinOp.add 9 (Go.Operand.tmp 31) (Go.Operand.const (Go.Value.string { data := #[32] })) 9, type := 9, pos := "ref.go:296", after := #[{ on := 28, ground := Go.Ground.data }], guard := none }) (v := ?_) rfl (by kernel_rfl) (by kernel_rfl) (by kernel_rfl) (fun _ _ _ h => h) (Or.inl ⟨by rfl, ?_⟩) (by assumption) ?_
    rotate_left
    · intro w hSw
      (try dsimp only at hSw)
      go_simp
      all_goals (with_reducible rfl)
    try simp only [Act.put, List.setIfInBounds_toArray, List.set_cons_zero, List.set_cons_succ]
    refine wpAnyH_ready (rs := [32]) (by kernel_rfl) (by simp) ?_
    refine AllReadyH.cons (o := { dst := some 35, op := Go.Op.call { callee := Go.Callee.value (Go.Operand.func 75), args := #[Go.Operand.tmp 34], argTypes := #[3] }, type := 9, pos := "ref.go:296", after := #[{ on := 31, ground := Go.Ground.data }, { on := 27, ground := Go.Ground.chain }], guard := none }) rfl (fun K hK => ?_) AllReadyH.nil
    go_simp
    refine (C3.out _).mono ?_
    rintro _ w7 ⟨rfl, hx7⟩
    have hv7 : Ext X w7 := Keeps.trans (by repeat (first | assumption | with_reducible exact Keeps.refl _ _ | with_reducible refine Keeps.drew ?_ | with_reducible refine Keeps.alloc ?_ _)) hx7
    have hHeld7 : (X.heap.size ≤ w7.heap.size ∧ ∀ p : Addr, p.block < X.heap.size → w7.cell? p = X.cell? p) ∧ w7.cell? ⟨gK, kk, none⟩ = some (.string nm) := ⟨Old.of_ext hv7, (hx7.cell (p := ⟨gK, kk, none⟩) gKs trivial).trans cK⟩
    clear hx7
    refine hK.out _ _ ?_ (fun hHeld => ?_)
    · exact hHeld7
    clear hK K
    try simp only [Act.put, List.setIfInBounds_toArray, List.set_cons_zero, List.set_cons_succ]
    refine wpAnyH_take (i := 33) (oi := { dst := some 36, op := Go.Op.binOp Go.BinOp.add 9 (Go.Operand.tmp 32) (Go.Operand.tmp 35) 9, type := 9, pos := "ref.go:296", after := #[{ on := 29, ground := Go.Ground.data }, { on := 32, ground := Go.Ground.data }], guard := none }) (v := ?_) rfl (by kernel_rfl) (by kernel_rfl) (by kernel_rfl) (fun _ _ _ h => h) (Or.inl ⟨by rfl, ?_⟩) (by assumption) ?_
    rotate_left
    · intro w hSw
      (try dsimp only at hSw)
      go_simp
      all_goals (with_reducible rfl)
    try simp only [Act.put, List.setIfInBounds_toArray, List.set_cons_zero, List.set_cons_succ]
    refine wpAnyH_take (i := 34) (oi := { dst := some 37, op := Go.Op.binOp Go.BinOp.add 9 (Go.Operand.tmp 36) (Go.Operand.const (Go.Value.string { data := #[32] })) 9, type := 9, pos := "ref.go:296", after := #[{ on := 33, ground := Go.Ground.data }], guard := none }) (v := ?_) rfl (by kernel_rfl) (by kernel_rfl) (by kernel_rfl) (fun _ _ _ h => h) (Or.inl ⟨by rfl, ?_⟩) (by assumption) ?_
    rotate_left
    · intro w hSw
      (try dsimp only at hSw)
      go_simp
      all_goals (with_reducible rfl)
    try simp only [Act.put, List.setIfInBounds_toArray, List.set_cons_zero, List.set_cons_succ]
    refine wpAnyH_ready (rs := [37]) (by kernel_rfl) (by simp) ?_
    refine AllReadyH.cons (o := { dst := some 40, op := Go.Op.call { callee := Go.Callee.value (Go.Operand.func 76), args := #[Go.Operand.tmp 39], argTypes := #[9] }, type := 9, pos := "ref.go:296", after := #[{ on := 36, ground := Go.Ground.data }, { on := 32, ground := Go.Ground.chain }], guard := none }) rfl (fun K hK => ?_) AllReadyH.nil
    go_simp
    refine (C6.out _).mono ?_
    rintro _ _ ⟨rfl, rfl⟩
    refine hK.out _ _ ?_ (fun hHeld => ?_)
    · exact hHeld7
    clear hK K
    try simp only [Act.put, List.setIfInBounds_toArray, List.set_cons_zero, List.set_cons_succ]
    refine wpAnyH_take (i := 38) (oi := { dst := some 41, op := Go.Op.binOp Go.BinOp.add 9 (Go.Operand.tmp 37) (Go.Operand.tmp 40) 9, type := 9, pos := "ref.go:296", after := #[{ on := 34, ground := Go.Ground.data }, { on := 37, ground := Go.Ground.data }], guard := none }) (v := ?_) rfl (by kernel_rfl) (by kernel_rfl) (by kernel_rfl) (fun _ _ _ h => h) (Or.inl ⟨by rfl, ?_⟩) (by assumption) ?_
    rotate_left
    · intro w hSw
      (try dsimp only at hSw)
      go_simp
      all_goals (with_reducible rfl)
    try simp only [Act.put, List.setIfInBounds_toArray, List.set_cons_zero, List.set_cons_succ]
    refine wpAnyH_take (i := 39) (oi := { dst := some 2, op := Go.Op.assign (Go.Operand.tmp 41), type := 9, pos := "ref.go:296", after := #[{ on := 38, ground := Go.Ground.data }, { on := 37, ground := Go.Ground.chain }, { on := 0, ground := Go.Ground.phase }, { on := 1, ground := Go.Ground.phase }, { on := 2, ground := Go.Ground.phase }, { on := 3, ground := Go.Ground.phase }, { on := 4, ground := Go.Ground.phase }, { on := 5, ground := Go.Ground.phase }, { on := 6, ground := Go.Ground.phase }, { on := 7, ground := Go.Ground.phase }, { on := 8, ground := Go.Ground.phase }, { on := 9, ground := Go.Ground.phase }, { on := 10, ground := Go.Ground.phase }, { on := 11, ground := Go.Ground.phase }, { on := 12, ground := Go.Ground.phase }, { on := 13, ground := Go.Ground.phase }, { on := 14, ground := Go.Ground.phase }, { on := 15, ground := Go.Ground.phase }, { on := 16, ground := Go.Ground.phase }, { on := 17, ground := Go.Ground.phase }, { on := 18, ground := Go.Ground.phase }, { on := 19, ground := Go.Ground.phase }, { on := 20, ground := Go.Ground.phase }, { on := 21, ground := Go.Ground.phase }, { on := 22, ground := Go.Ground.phase }, { on := 23, ground := Go.Ground.phase }, { on := 24, ground := Go.Ground.phase }, { on := 25, ground := Go.Ground.phase }, { on := 26, ground := Go.Ground.phase }, { on := 27, ground := Go.Ground.phase }, { on := 28, ground := Go.Ground.phase }, { on := 29, ground := Go.Ground.phase }, { on := 30, ground := Go.Ground.phase }, { on := 31, ground := Go.Ground.phase }, { on := 32, ground := Go.Ground.phase }, { on := 33, ground := Go.Ground.phase }, { on := 34, ground := Go.Ground.phase }, { on := 35, ground := Go.Ground.phase }, { on := 36, ground := Go.Ground.phase }, { on := 37, ground := Go.Ground.phase }, { on := 38, ground := Go.Ground.phase }], guard := none }) (v := ?_) rfl (by kernel_rfl) (by kernel_rfl) (by kernel_rfl) (fun _ _ _ h => h) (Or.inl ⟨by rfl, ?_⟩) (by assumption) ?_
    rotate_left
    · intro w hSw
      (try dsimp only at hSw)
      go_simp
      all_goals (with_reducible rfl)
    try simp only [Act.put, List.setIfInBounds_toArray, List.set_cons_zero, List.set_cons_succ]
    refine wpAnyH_done (by kernel_rfl) ?_ _
    refine NoPanic.normal ?_
    go_wp2_with fail
    go_meet
    exact ⟨rfl, hv7⟩
  case rest =>
    obtain ⟨hs2, hxc⟩ := hcut
    subst hs2
    go_wp2_with fail
    go_ret
    refine ⟨?_, HX.out.trans hxc⟩
    rw [cat_join]
    unfold fmtE
    rw [Hw.out]
    obtain ⟨a1, a2, a3, a4, a5⟩ := Hd.out
    obtain ⟨b1, b2, b3⟩ := HP.out
    simp only [List.map_cons, List.map_nil, a1, a2, a3, a4, a5, ← b1, ← b2, ← b3]
    rfl
theorem ref_Format (e : Ev) (w : World) (h : mayE e = true) :
    Calls Tryd.prog 49 #[.agg #[.string e.src, .int .i64 e.num, .int .i64 e.tick, .int .i64 e.kind, .string e.person, .string e.item, .int .i64 e.value, .string e.text]] w fun r w' => r = .returned (.string (fmtE e)) ∧ Ext w w' := by
  have hF := mayF h
  obtain ⟨src, num, tick, kind, person, item, value, text⟩ := e
  obtain ⟨kk, rfl⟩ : ∃ kk : Nat, kind = kk := ⟨kind.toNat, by have : 0 ≤ kind := hF.kind0; omega⟩
  exact ref_Format' src person item text num tick value kk w h
end Go.Proofs.YtmhkgfoimkonoaaDoor
