/-
  What is proved here: the document's Parse of a text is the plain function's event, or none. Conditions: texts of at most a million bytes.
-/
import Derived.Test.YtmhkgfoimkonoaaDoorEvRFmt
import Derived.Test.YtmhkgfoimkonoaaDoorEvPar
import Derived.Test.YtmhkgfoimkonoaaDoorEvRMay
namespace Go.Proofs.YtmhkgfoimkonoaaDoor
open Go Go.RowKit Go.Proofs
attribute [local go_sem ↓] Go.wp_at_zero Go.wp_at_succ
def evQ (w0 w1 w2 w3 w4 w5 w6 w7 : ByteArray) : Ev := ⟨w0, readI w1, readI w2, kindTo w3 15, undotB w4, undotB w5, readI w6, undotB w7⟩
def parQ (s w0 w1 w2 w3 w4 w5 w6 w7 : ByteArray) : Ev × Bool := if mayE (evQ w0 w1 w2 w3 w4 w5 w6 w7) && (fmtE (evQ w0 w1 w2 w3 w4 w5 w6 w7) == s) then (evQ w0 w1 w2 w3 w4 w5 w6 w7, true) else (ev0, false)
def ParQost (w : World) (e : Ev) (f : Bool) (r : Ending) (w' : World) : Prop := r = .returned (.tuple #[.agg (evC e), .bool f]) ∧ Ext w w'
set_option maxRecDepth 100000 in
set_option maxHeartbeats 4000000 in
theorem ref_Parse_len (s : ByteArray) (w : World) (hs : s.size ≤ 999999) (hl : (partsL 32 s.data.toList).length ≠ 8) :
    Calls Tryd.prog 47 #[.string s] w (ParQost w ev0 false) := by
  have HS := Lib.hid (fun (W : World) => ref_Parts s 32 W (by omega))
  have hln : ((partsL 32 s.data.toList).map bts).length = (partsL 32 s.data.toList).length := List.length_map ..
  obtain ⟨n, hn⟩ : ∃ n, n = ((partsL 32 s.data.toList).map bts).length := ⟨_, rfl⟩
  have HS' := Lib.hid (fun (W : World) => (HS.out W).mono (R' := fun e w' => ∃ A c, e = .returned (.slice A n c) ∧ Ext W w') (fun _ _ ⟨A, c, h1, _, h3⟩ => ⟨A, c, by rw [hn]; exact h1, h3⟩))
  have h8 : n ≠ 8 := by rw [hn, hln]; exact hl
  have h8' : ((n : Int) != 8) = true := by simp; omega
  have hn0 : n ≤ 1000000 := by
    have := parts_len 32 s.data.toList
    have h4 : s.data.toList.length = s.size := by simp
    omega
  clear HS hln hn hl h8
  go_enter Tryd.func47, Tryd.ntmps47
  go_wp2_with (go_at_call 46; refine (HS'.out _).mono ?_; rintro _ w1 ⟨A, c, rfl, hx1⟩; have hg1 := hx1.blk (blk_new w _); have z0 := blk_cell hg1 0 rfl; have z1 := blk_cell hg1 1 rfl; have z2 := blk_cell hg1 2 rfl; have z3 := blk_cell hg1 3 rfl; have z4 := blk_cell hg1 4 rfl; have z5 := blk_cell hg1 5 rfl; have z6 := blk_cell hg1 6 rfl; have z7 := blk_cell hg1 7 rfl; have fz := blk_free hg1; have Hx1 := Lib.hid (Keeps.trans ((Keeps.refl (fun _ => True) w).alloc _) hx1); clear hx1 hg1)
  refine bodyPost_ret (v := .tuple #[.agg #[.string ⟨#[]⟩, .int .i64 0, .int .i64 0, .int .i64 0, .string ⟨#[]⟩, .string ⟨#[]⟩, .int .i64 0, .string ⟨#[]⟩], .bool false]) (by simp [results, Tryd.results47, go_sem, *]) rfl ⟨rfl, ?_⟩
  have hx := Hx1.out
  repeat (first | with_reducible exact hx | with_reducible exact Keeps.refl _ _ | with_reducible refine Keeps.drew ?_ | with_reducible refine Keeps.drewN ?_ _ | with_reducible refine Keeps.alloc ?_ _ | with_reducible refine Keeps.setCell ?_ (by first | (intro h; simp at h; done) | (intro _; simp; done) | (intro _; simp; omega) | (intro h; simp at h; omega)) _)
set_option maxRecDepth 100000 in
set_option maxHeartbeats 8000000 in
theorem ref_Parse_8 (s : ByteArray) (w0 w1 w2 w3 w4 w5 w6 w7 : ByteArray) (w : World) (hs : s.size ≤ 999999) (hl : (partsL 32 s.data.toList).map bts = [w0, w1, w2, w3, w4, w5, w6, w7]) (hsz : ∀ x ∈ [w0, w1, w2, w3, w4, w5, w6, w7], x.size ≤ 999999) :
    Calls Tryd.prog 47 #[.string s] w (ParQost w (parQ s w0 w1 w2 w3 w4 w5 w6 w7).1 (parQ s w0 w1 w2 w3 w4 w5 w6 w7).2) := by
  have HS' := Lib.hid (fun (W : World) => (ref_Parts s 32 W (by omega)).mono (R' := fun e w' => ∃ b o c, e = .returned (.slice (some ⟨b, o, none⟩) 8 c) ∧ Ext W w' ∧ Sl strR (fun _ => True) w' (some ⟨b, o, none⟩) 8 [w0, w1, w2, w3, w4, w5, w6, w7] ∧ b < w'.heap.size ∧ W.heap.size ≤ b) (fun e w' ⟨A, c, h1, h2, h3⟩ => by
    rw [hl] at h1 h2
    have h4 := h2.sl (ok' := fun _ => True) (fun _ _ _ _ => trivial) (fun _ _ _ => trivial)
    obtain ⟨b, o, rfl, hb, _⟩ := h4.2 (by simp)
    exact ⟨b, o, c, h1, h3, h4, hb, (h2.lt b rfl).1⟩))
  have Hsz := Lib.hid hsz
  obtain ⟨N1, hN1⟩ : ∃ u, u = readI w1 := ⟨_, rfl⟩
  obtain ⟨N2, hN2⟩ : ∃ u, u = readI w2 := ⟨_, rfl⟩
  obtain ⟨N6, hN6⟩ : ∃ u, u = readI w6 := ⟨_, rfl⟩
  obtain ⟨U4, hU4⟩ : ∃ u, u = undotB w4 := ⟨_, rfl⟩
  obtain ⟨U5, hU5⟩ : ∃ u, u = undotB w5 := ⟨_, rfl⟩
  obtain ⟨U7, hU7⟩ : ∃ u, u = undotB w7 := ⟨_, rfl⟩
  have m1 : w1.size ≤ maxLen := by have := hsz w1 (by simp); unfold maxLen; omega
  have m2 : w2.size ≤ maxLen := by have := hsz w2 (by simp); unfold maxLen; omega
  have m6 : w6.size ≤ maxLen := by have := hsz w6 (by simp); unfold maxLen; omega
  have D1 := Lib.hid (fun W : World => show Calls Tryd.prog 73 #[.string w1] W (fun e w' => e = .returned (.int .i64 N1) ∧ W = w') by rw [hN1]; exact ref_Read w1 W m1)
  have D2 := Lib.hid (fun W : World => show Calls Tryd.prog 73 #[.string w2] W (fun e w' => e = .returned (.int .i64 N2) ∧ W = w') by rw [hN2]; exact ref_Read w2 W m2)
  have D6 := Lib.hid (fun W : World => show Calls Tryd.prog 73 #[.string w6] W (fun e w' => e = .returned (.int .i64 N6) ∧ W = w') by rw [hN6]; exact ref_Read w6 W m6)
  have F4 := Lib.hid (fun W : World => show Calls Tryd.prog 74 #[.string w4] W (fun e w' => e = .returned (.string U4) ∧ W = w') by rw [hU4]; exact ref_none w4 W)
  have F5 := Lib.hid (fun W : World => show Calls Tryd.prog 74 #[.string w5] W (fun e w' => e = .returned (.string U5) ∧ W = w') by rw [hU5]; exact ref_none w5 W)
  have F7 := Lib.hid (fun W : World => show Calls Tryd.prog 74 #[.string w7] W (fun e w' => e = .returned (.string U7) ∧ W = w') by rw [hU7]; exact ref_none w7 W)
  have HE := Lib.hid (show ∀ k, (⟨w0, N1, N2, k, U4, U5, N6, U7⟩ : Ev) = ⟨w0, readI w1, readI w2, k, undotB w4, undotB w5, readI w6, undotB w7⟩ from fun k => by rw [hU4, hU5, hU7, hN1, hN2, hN6])
  clear hl hsz hU4 hU5 hU7 hN1 hN2 hN6 m1 m2 m6
  go_enter Tryd.func47, Tryd.ntmps47
  go_wp2_with fail
  refine (HS'.out _).mono ?_
  rintro _ X ⟨b, o, c, rfl, hx1, hsl, hbX, hb0⟩
  have gR := hx1.blk (blk_new w _)
  have HgR := Lib.hid gR
  have hgl : w.heap.size < X.heap.size := (Array.getElem?_eq_some_iff.1 gR).1
  have HX := Lib.hid (show Ext w X from Keeps.trans ((Keeps.refl (fun _ => True) w).alloc _) hx1)
  have s0 := hsl.strAt (k := 0) rfl
  have s1 := hsl.strAt (k := 1) rfl
  have s2 := hsl.strAt (k := 2) rfl
  have s3 := hsl.strAt (k := 3) rfl
  have s4 := hsl.strAt (k := 4) rfl
  have s5 := hsl.strAt (k := 5) rfl
  have s6 := hsl.strAt (k := 6) rfl
  have s7 := hsl.strAt (k := 7) rfl
  simp only [Nat.add_zero] at s0
  clear hx1 hsl gR
  go_wp2_with fail
  go_loopw [5, 6] (fun kd i wr => ∃ k : Nat, k ≤ 15 ∧ i = .int .i64 k ∧ kd = .int .i64 (kindTo w3 k) ∧ Ext X wr) (fun _ i _ => 15 - (intOf i).toNat)
  case atStart => exact ⟨0, by omega, rfl, rfl, Keeps.refl _ _⟩
  case round =>
    obtain ⟨k, hk, rfl, rfl, hxr⟩ := hrel
    have Hxr := Lib.hid hxr
    by_cases hlt : k < 15
    · have sr := (hxr.cell (p := ⟨b, o + 3, none⟩) hbX trivial).trans s3
      have i0 : (0 : Int) ≤ (k : Int) := by omega
      have i1 : (k : Int) < 15 := by omega
      clear hxr
      obtain ⟨nm, hnm⟩ : ∃ nm, nm = kindsB.getD k ⟨#[]⟩ := ⟨_, rfl⟩
      have Hnm := Lib.hid (show ((kindsB.map Value.string).toArray)[k]? = some (.string nm) by rw [List.getElem?_toArray, List.getElem?_map, kinds_at hlt, hnm]; rfl)
      have Hnm2 := Lib.hid hnm
      clear hnm
      obtain ⟨Kk, hKk⟩ : ∃ K, K = kindTo w3 k := ⟨_, rfl⟩
      rw [← hKk]
      have HKk := Lib.hid hKk
      clear hKk
      cases hq : (nm == w3) <;> have hq' : (nm.toList == w3.toList) = _ := (show (nm.toList == w3.toList) = (nm == w3) by rw [Bool.eq_iff_iff, beqB_iff, beq_iff_eq]; exact ⟨toL_inj, fun e => by rw [e]⟩).trans hq
      · have Hk := Lib.hid (show kindTo w3 (k + 1) = Kk by rw [kindTo, ← Hnm2.out, hq, HKk.out]; rfl)
        clear hq
        go_wp2_with fail
        refine wp_region_held_drew (S := fun w' => w'.cell? ⟨b, o + 3, none⟩ = some (.string w3)) (by kernel_rfl) ?_ (fun hHeld => ?_)
        · exact sr
        refine wpAnyH_take (i := 1) (oi := { dst := some 19, op := Go.Op.move (Go.Operand.tmp 6), type := 3, pos := "ref.go:315", after := #[], guard := none }) (v := ?_) rfl (by kernel_rfl) (by kernel_rfl) (by kernel_rfl) (fun _ _ _ h => h) (Or.inl ⟨by rfl, ?_⟩) (by assumption) ?_
        rotate_left
        · intro w hSw
          (try dsimp only at hSw)
          go_simp
          all_goals (with_reducible rfl)
        try simp only [Act.put, List.setIfInBounds_toArray, List.set_cons_zero, List.set_cons_succ]
        refine wpAnyH_take (i := 4) (oi := { dst := some 22, op := Go.Op.move (Go.Operand.tmp 4), type := 45, pos := "ref.go:315", after := #[], guard := none }) (v := ?_) rfl (by kernel_rfl) (by kernel_rfl) (by kernel_rfl) (fun _ _ _ h => h) (Or.inl ⟨by rfl, ?_⟩) (by assumption) ?_
        rotate_left
        · intro w hSw
          (try dsimp only at hSw)
          go_simp
          all_goals (with_reducible rfl)
        try simp only [Act.put, List.setIfInBounds_toArray, List.set_cons_zero, List.set_cons_succ]
        refine wpAnyH_take (i := 5) (oi := { dst := some 23, op := Go.Op.indexAddr 45 (Go.Operand.tmp 22) (Go.Operand.const (Go.Value.int Go.IntKind.i64 3)), type := 0, pos := "ref.go:315", after := #[{ on := 4, ground := Go.Ground.data }], guard := none }) (v := ?_) rfl (by kernel_rfl) (by kernel_rfl) (by kernel_rfl) (fun _ _ _ h => h) (Or.inl ⟨by rfl, ?_⟩) (by assumption) ?_
        rotate_left
        · intro w hSw
          (try dsimp only at hSw)
          go_simp
          all_goals (with_reducible rfl)
        try simp only [Act.put, List.setIfInBounds_toArray, List.set_cons_zero, List.set_cons_succ]
        refine wpAnyH_take (i := 6) (oi := { dst := some 24, op := Go.Op.load 9 (Go.Operand.tmp 23), type := 9, pos := "ref.go:315", after := #[{ on := 5, ground := Go.Ground.data }], guard := none }) (v := ?_) rfl (by kernel_rfl) (by kernel_rfl) (by kernel_rfl) (fun _ _ _ h => h) (Or.inl ⟨by rfl, ?_⟩) (by assumption) ?_
        rotate_left
        · intro w hSw
          (try dsimp only at hSw)
          go_simp
          all_goals (with_reducible rfl)
        try simp only [Act.put, List.setIfInBounds_toArray, List.set_cons_zero, List.set_cons_succ]
        refine wpAnyH_ready (rs := [0]) (by kernel_rfl) (by simp) ?_
        refine AllReadyH.cons (o := { dst := some 18, op := Go.Op.call { callee := Go.Callee.value (Go.Operand.func 72), args := #[], argTypes := #[] }, type := 45, pos := "ref.go:315", after := #[], guard := none }) rfl (fun K hK => ?_) AllReadyH.nil
        go_simp
        refine (ref_Kinds _).mono ?_
        rintro _ w6 ⟨gK, rfl, hgK, _, hx6⟩
        have hu : Ext X w6 := Keeps.trans (Keeps.drew Hxr.out) hx6
        have cK := blk_cell hgK k Hnm.out
        clear hx6 hgK
        refine hK.out _ _ ?_ (fun hHeld => ?_)
        · exact (hu.cell (p := ⟨b, o + 3, none⟩) hbX trivial).trans s3
        clear hK K
        try simp only [Act.put, List.setIfInBounds_toArray, List.set_cons_zero, List.set_cons_succ]
        refine wpAnyH_strong (S' := fun w' => (w'.cell? ⟨b, o + 3, none⟩ = some (.string w3)) ∧ w'.cell? ⟨gK, k, none⟩ = some (.string nm)) (fun _ h => h.1) _ _ _ _ ?_
        have hHeld2 : w6.cell? ⟨b, o + 3, none⟩ = some (.string w3) ∧ w6.cell? ⟨gK, k, none⟩ = some (.string nm) := ⟨hHeld, cK⟩
        refine wpAnyH_take (i := 2) (oi := { dst := some 20, op := Go.Op.indexAddr 45 (Go.Operand.tmp 18) (Go.Operand.tmp 19), type := 0, pos := "ref.go:315", after := #[{ on := 0, ground := Go.Ground.data }, { on := 1, ground := Go.Ground.data }], guard := none }) (v := ?_) rfl (by kernel_rfl) (by kernel_rfl) (by kernel_rfl) (fun _ _ _ h => h) (Or.inl ⟨by rfl, ?_⟩) (by assumption) ?_
        rotate_left
        · intro w hSw
          (try dsimp only at hSw)
          go_simp
          all_goals (with_reducible rfl)
        try simp only [Act.put, List.setIfInBounds_toArray, List.set_cons_zero, List.set_cons_succ]
        refine wpAnyH_take (i := 3) (oi := { dst := some 21, op := Go.Op.load 9 (Go.Operand.tmp 20), type := 9, pos := "ref.go:315", after := #[{ on := 2, ground := Go.Ground.data }], guard := none }) (v := ?_) rfl (by kernel_rfl) (by kernel_rfl) (by kernel_rfl) (fun _ _ _ h => h) (Or.inl ⟨by rfl, ?_⟩) (by assumption) ?_
        rotate_left
        · intro w hSw
          (try dsimp only at hSw)
          go_simp
          all_goals (with_reducible rfl)
        try simp only [Act.put, List.setIfInBounds_toArray, List.set_cons_zero, List.set_cons_succ]
        refine wpAnyH_take (i := 7) (oi := { dst := some 25, op := Go.Op.binOp Go.BinOp.eql 9 (Go.Operand.tmp 21) (Go.Operand.tmp 24) 9, type := 4, pos := "ref.go:315", after := #[{ on := 3, ground := Go.Ground.data }, { on := 6, ground := Go.Ground.data }], guard := none }) (v := ?_) rfl (by kernel_rfl) (by kernel_rfl) (by kernel_rfl) (fun _ _ _ h => h) (Or.inl ⟨by rfl, ?_⟩) (by assumption) ?_
        rotate_left
        · intro w hSw
          (try dsimp only at hSw)
          go_simp
          all_goals (with_reducible rfl)
        try simp only [Act.put, List.setIfInBounds_toArray, List.set_cons_zero, List.set_cons_succ]
        refine wpAnyH_done (by kernel_rfl) ?_ _
        go_wp2_with fail
        go_roundw
        case rel => exact ⟨k + 1, by omega, by go_num, by rw [Hk.out], hu⟩
        case measure => simp [intOf]; omega
      · have Hk := Lib.hid (show kindTo w3 (k + 1) = (k : Int) by rw [kindTo, ← Hnm2.out, hq]; rfl)
        clear hq
        go_wp2_with fail
        refine wp_region_held_drew (S := fun w' => w'.cell? ⟨b, o + 3, none⟩ = some (.string w3)) (by kernel_rfl) ?_ (fun hHeld => ?_)
        · exact sr
        refine wpAnyH_take (i := 1) (oi := { dst := some 19, op := Go.Op.move (Go.Operand.tmp 6), type := 3, pos := "ref.go:315", after := #[], guard := none }) (v := ?_) rfl (by kernel_rfl) (by kernel_rfl) (by kernel_rfl) (fun _ _ _ h => h) (Or.inl ⟨by rfl, ?_⟩) (by assumption) ?_
        rotate_left
        · intro w hSw
          (try dsimp only at hSw)
          go_simp
          all_goals (with_reducible rfl)
        try simp only [Act.put, List.setIfInBounds_toArray, List.set_cons_zero, List.set_cons_succ]
        refine wpAnyH_take (i := 4) (oi := { dst := some 22, op := Go.Op.move (Go.Operand.tmp 4), type := 45, pos := "ref.go:315", after := #[], guard := none }) (v := ?_) rfl (by kernel_rfl) (by kernel_rfl) (by kernel_rfl) (fun _ _ _ h => h) (Or.inl ⟨by rfl, ?_⟩) (by assumption) ?_
        rotate_left
        · intro w hSw
          (try dsimp only at hSw)
          go_simp
          all_goals (with_reducible rfl)
        try simp only [Act.put, List.setIfInBounds_toArray, List.set_cons_zero, List.set_cons_succ]
        refine wpAnyH_take (i := 5) (oi := { dst := some 23, op := Go.Op.indexAddr 45 (Go.Operand.tmp 22) (Go.Operand.const (Go.Value.int Go.IntKind.i64 3)), type := 0, pos := "ref.go:315", after := #[{ on := 4, ground := Go.Ground.data }], guard := none }) (v := ?_) rfl (by kernel_rfl) (by kernel_rfl) (by kernel_rfl) (fun _ _ _ h => h) (Or.inl ⟨by rfl, ?_⟩) (by assumption) ?_
        rotate_left
        · intro w hSw
          (try dsimp only at hSw)
          go_simp
          all_goals (with_reducible rfl)
        try simp only [Act.put, List.setIfInBounds_toArray, List.set_cons_zero, List.set_cons_succ]
        refine wpAnyH_take (i := 6) (oi := { dst := some 24, op := Go.Op.load 9 (Go.Operand.tmp 23), type := 9, pos := "ref.go:315", after := #[{ on := 5, ground := Go.Ground.data }], guard := none }) (v := ?_) rfl (by kernel_rfl) (by kernel_rfl) (by kernel_rfl) (fun _ _ _ h => h) (Or.inl ⟨by rfl, ?_⟩) (by assumption) ?_
        rotate_left
        · intro w hSw
          (try dsimp only at hSw)
          go_simp
          all_goals (with_reducible rfl)
        try simp only [Act.put, List.setIfInBounds_toArray, List.set_cons_zero, List.set_cons_succ]
        refine wpAnyH_ready (rs := [0]) (by kernel_rfl) (by simp) ?_
        refine AllReadyH.cons (o := { dst := some 18, op := Go.Op.call { callee := Go.Callee.value (Go.Operand.func 72), args := #[], argTypes := #[] }, type := 45, pos := "ref.go:315", after := #[], guard := none }) rfl (fun K hK => ?_) AllReadyH.nil
        go_simp
        refine (ref_Kinds _).mono ?_
        rintro _ w6 ⟨gK, rfl, hgK, _, hx6⟩
        have hu : Ext X w6 := Keeps.trans (Keeps.drew Hxr.out) hx6
        have cK := blk_cell hgK k Hnm.out
        clear hx6 hgK
        refine hK.out _ _ ?_ (fun hHeld => ?_)
        · exact (hu.cell (p := ⟨b, o + 3, none⟩) hbX trivial).trans s3
        clear hK K
        try simp only [Act.put, List.setIfInBounds_toArray, List.set_cons_zero, List.set_cons_succ]
        refine wpAnyH_strong (S' := fun w' => (w'.cell? ⟨b, o + 3, none⟩ = some (.string w3)) ∧ w'.cell? ⟨gK, k, none⟩ = some (.string nm)) (fun _ h => h.1) _ _ _ _ ?_
        have hHeld2 : w6.cell? ⟨b, o + 3, none⟩ = some (.string w3) ∧ w6.cell? ⟨gK, k, none⟩ = some (.string nm) := ⟨hHeld, cK⟩
        refine wpAnyH_take (i := 2) (oi := { dst := some 20, op := Go.Op.indexAddr 45 (Go.Operand.tmp 18) (Go.Operand.tmp 19), type := 0, pos := "ref.go:315", after := #[{ on := 0, ground := Go.Ground.data }, { on := 1, ground := Go.Ground.data }], guard := none }) (v := ?_) rfl (by kernel_rfl) (by kernel_rfl) (by kernel_rfl) (fun _ _ _ h => h) (Or.inl ⟨by rfl, ?_⟩) (by assumption) ?_
        rotate_left
        · intro w hSw
          (try dsimp only at hSw)
          go_simp
          all_goals (with_reducible rfl)
        try simp only [Act.put, List.setIfInBounds_toArray, List.set_cons_zero, List.set_cons_succ]
        refine wpAnyH_take (i := 3) (oi := { dst := some 21, op := Go.Op.load 9 (Go.Operand.tmp 20), type := 9, pos := "ref.go:315", after := #[{ on := 2, ground := Go.Ground.data }], guard := none }) (v := ?_) rfl (by kernel_rfl) (by kernel_rfl) (by kernel_rfl) (fun _ _ _ h => h) (Or.inl ⟨by rfl, ?_⟩) (by assumption) ?_
        rotate_left
        · intro w hSw
          (try dsimp only at hSw)
          go_simp
          all_goals (with_reducible rfl)
        try simp only [Act.put, List.setIfInBounds_toArray, List.set_cons_zero, List.set_cons_succ]
        refine wpAnyH_take (i := 7) (oi := { dst := some 25, op := Go.Op.binOp Go.BinOp.eql 9 (Go.Operand.tmp 21) (Go.Operand.tmp 24) 9, type := 4, pos := "ref.go:315", after := #[{ on := 3, ground := Go.Ground.data }, { on := 6, ground := Go.Ground.data }], guard := none }) (v := ?_) rfl (by kernel_rfl) (by kernel_rfl) (by kernel_rfl) (fun _ _ _ h => h) (Or.inl ⟨by rfl, ?_⟩) (by assumption) ?_
        rotate_left
        · intro w hSw
          (try dsimp only at hSw)
          go_simp
          all_goals (with_reducible rfl)
        try simp only [Act.put, List.setIfInBounds_toArray, List.set_cons_zero, List.set_cons_succ]
        refine wpAnyH_done (by kernel_rfl) ?_ _
        go_wp2_with fail
        go_roundw
        case rel => exact ⟨k + 1, by omega, by go_num, by rw [Hk.out], hu⟩
        case measure => simp [intOf]; omega
    · obtain rfl : k = 15 := by omega
      obtain ⟨K, hK⟩ : ∃ K, K = kindTo w3 15 := ⟨_, rfl⟩
      rw [← hK]
      have HE' := Lib.hid (show evQ w0 w1 w2 w3 w4 w5 w6 w7 = (⟨w0, N1, N2, K, U4, U5, N6, U7⟩ : Ev) by rw [HE.out]; unfold evQ; rw [hK])
      obtain ⟨Y, hY⟩ : ∃ Y, Y = wr := ⟨_, rfl⟩
      rw [← hY] at hxr ⊢
      have hrl := ext_rule2 hxr
      have HxY0 := Lib.hid hxr
      have hszY : X.heap.size ≤ Y.heap.size := hxr.size
      have t0 := (hxr.cell (p := ⟨b, o, none⟩) hbX trivial).trans s0
      have t1 := (hxr.cell (p := ⟨b, o + 1, none⟩) hbX trivial).trans s1
      have t2 := (hxr.cell (p := ⟨b, o + 2, none⟩) hbX trivial).trans s2
      have t4 := (hxr.cell (p := ⟨b, o + 4, none⟩) hbX trivial).trans s4
      have t5 := (hxr.cell (p := ⟨b, o + 5, none⟩) hbX trivial).trans s5
      have t6 := (hxr.cell (p := ⟨b, o + 6, none⟩) hbX trivial).trans s6
      have t7 := (hxr.cell (p := ⟨b, o + 7, none⟩) hbX trivial).trans s7
      have hbY : b < Y.heap.size := by omega
      clear hY hK hxr hrl s0 s1 s2 s3 s4 s5 s6 s7
      go_wp2_with fail
      go_cut [7] (fun s7 wc => ∃ g, s7 = .pointer (some ⟨g, 0, none⟩) ∧ wc.heap[g]? = some (.cells #[.string w0, .int .i64 N1, .int .i64 N2, .int .i64 K, .string U4, .string U5, .int .i64 N6, .string U7] 30) ∧ Y.heap.size ≤ g ∧ Ext Y wc)
      case first =>
        go_region_held3 (fun w' => Y.heap.size ≤ w'.heap.size ∧ ∀ p : Addr, p.block < Y.heap.size → w'.cell? p = Y.cell? p) (repeat (first | with_reducible assumption | with_reducible exact Old.refl _ | with_reducible refine Old.drew ?_ | with_reducible refine Old.alloc ?_ _)) (first
          | (go_at_call 73; (with_reducible refine (D1.out _).mono ?_); rintro _ _ ⟨rfl, rfl⟩)
          | (go_at_call 73; (with_reducible refine (D2.out _).mono ?_); rintro _ _ ⟨rfl, rfl⟩)
          | (go_at_call 73; (with_reducible refine (D6.out _).mono ?_); rintro _ _ ⟨rfl, rfl⟩)
          | (go_at_call 74; (with_reducible refine (F4.out _).mono ?_); rintro _ _ ⟨rfl, rfl⟩)
          | (go_at_call 74; (with_reducible refine (F5.out _).mono ?_); rintro _ _ ⟨rfl, rfl⟩)
          | (go_at_call 74; (with_reducible refine (F7.out _).mono ?_); rintro _ _ ⟨rfl, rfl⟩))
        all_goals
          go_wp2_with fail
          go_meet
          exact ⟨_, rfl, blk_new Y _, Nat.le_refl _, ((Keeps.refl _ Y).alloc _).drew⟩
      case rest =>
        obtain ⟨g, hs7, hgE, hgY, hxc⟩ := hcut
        subst hs7
        obtain ⟨V, hV⟩ : ∃ V, V = wc := ⟨_, rfl⟩
        rw [← hV] at hgE hxc ⊢
        have HgE := Lib.hid hgE
        have HxY := Lib.hid ((HX.out.trans HxY0.out).trans hxc)
        have HgR2 := Lib.hid (Ext.blk (HxY0.out.trans hxc) HgR.out)
        have e0 := blk_cell hgE 0 rfl
        have e1 := blk_cell hgE 1 rfl
        have e2 := blk_cell hgE 2 rfl
        have e3 := blk_cell hgE 3 rfl
        have e4 := blk_cell hgE 4 rfl
        have e5 := blk_cell hgE 5 rfl
        have e6 := blk_cell hgE 6 rfl
        have e7 := blk_cell hgE 7 rfl
        have r0 := blk_cell HgR2.out 0 rfl
        have r1 := blk_cell HgR2.out 1 rfl
        have r2 := blk_cell HgR2.out 2 rfl
        have r3 := blk_cell HgR2.out 3 rfl
        have r4 := blk_cell HgR2.out 4 rfl
        have r5 := blk_cell HgR2.out 5 rfl
        have r6 := blk_cell HgR2.out 6 rfl
        have r7 := blk_cell HgR2.out 7 rfl
        have fR := blk_free HgR2.out
        have hneg : w.heap.size ≠ g := by omega
        clear hV hgE hxc t0 t1 t2 t4 t5 t6 t7
        have HSm := Lib.hid (show EvSm (⟨w0, N1, N2, K, U4, U5, N6, U7⟩ : Ev) by
          rw [← HE'.out]
          exact ⟨Hsz.out w0 (by simp), Nat.le_trans (undotB_size w4) (Hsz.out w4 (by simp)), Nat.le_trans (undotB_size w5) (Hsz.out w5 (by simp)), Nat.le_trans (undotB_size w7) (Hsz.out w7 (by simp))⟩)
        cases hm : mayE (⟨w0, N1, N2, K, U4, U5, N6, U7⟩ : Ev)
        · have HM := Lib.hid (fun W : World => show Calls Tryd.prog 45 #[.agg #[.string w0, .int .i64 N1, .int .i64 N2, .int .i64 K, .string U4, .string U5, .int .i64 N6, .string U7]] W (fun r w' => r = .returned (.bool false) ∧ Ext W w') by rw [← hm]; exact ref_May (⟨w0, N1, N2, K, U4, U5, N6, U7⟩ : Ev) W HSm.out)
          have Hf := Lib.hid (show parQ s w0 w1 w2 w3 w4 w5 w6 w7 = (ev0, false) by unfold parQ; rw [HE'.out, hm]; rfl)
          clear hm
          go_wp2_with (go_at_call 45; (with_reducible refine (HM.out _).mono ?_); rintro _ wM ⟨rfl, hxM⟩; clear e0 e1 e2 e3 e4 e5 e6 e7; have hgM := hxM.blk HgE.out; have e0 := blk_cell hgM 0 rfl; have e1 := blk_cell hgM 1 rfl; have e2 := blk_cell hgM 2 rfl; have e3 := blk_cell hgM 3 rfl; have e4 := blk_cell hgM 4 rfl; have e5 := blk_cell hgM 5 rfl; have e6 := blk_cell hgM 6 rfl; have e7 := blk_cell hgM 7 rfl; clear r0 r1 r2 r3 r4 r5 r6 r7; have hgN := hxM.blk HgR2.out; have r0 := blk_cell hgN 0 rfl; have r1 := blk_cell hgN 1 rfl; have r2 := blk_cell hgN 2 rfl; have r3 := blk_cell hgN 3 rfl; have r4 := blk_cell hgN 4 rfl; have r5 := blk_cell hgN 5 rfl; have r6 := blk_cell hgN 6 rfl; have r7 := blk_cell hgN 7 rfl; clear fR; have fR := blk_free hgN; have HgE2 := Lib.hid hgM; have HgN := Lib.hid hgN; have HxM := Lib.hid (HxY.out.trans hxM); clear hxM hgM hgN)
          refine bodyPost_ret (v := .tuple #[.agg #[.string ⟨#[]⟩, .int .i64 0, .int .i64 0, .int .i64 0, .string ⟨#[]⟩, .string ⟨#[]⟩, .int .i64 0, .string ⟨#[]⟩], .bool false]) (by simp [results, Tryd.results47, go_sem, *]) rfl ⟨by rw [Hf.out]; rfl, ?_⟩
          have hx := HxM.out
          repeat (first | with_reducible exact hx | with_reducible exact Keeps.refl _ _ | with_reducible refine Keeps.drew ?_ | with_reducible refine Keeps.drewN ?_ _ | with_reducible refine Keeps.alloc ?_ _ | with_reducible refine Keeps.setCell ?_ (by first | (intro h; simp at h; done) | (intro _; simp; done) | (intro _; simp; omega) | (intro h; simp at h; omega)) _)
        · have HM := Lib.hid (fun W : World => show Calls Tryd.prog 45 #[.agg #[.string w0, .int .i64 N1, .int .i64 N2, .int .i64 K, .string U4, .string U5, .int .i64 N6, .string U7]] W (fun r w' => r = .returned (.bool true) ∧ Ext W w') by rw [← hm]; exact ref_May (⟨w0, N1, N2, K, U4, U5, N6, U7⟩ : Ev) W HSm.out)
          obtain ⟨F, hF⟩ : ∃ F : ByteArray, F = fmtE (⟨w0, N1, N2, K, U4, U5, N6, U7⟩ : Ev) := ⟨_, rfl⟩
          have HF := Lib.hid (fun W : World => show Calls Tryd.prog 49 #[.agg #[.string w0, .int .i64 N1, .int .i64 N2, .int .i64 K, .string U4, .string U5, .int .i64 N6, .string U7]] W (fun r w' => r = .returned (.string F) ∧ Ext W w') by rw [hF]; exact ref_Format (⟨w0, N1, N2, K, U4, U5, N6, U7⟩ : Ev) W hm)
          have HQ := Lib.hid (show parQ s w0 w1 w2 w3 w4 w5 w6 w7 = if F == s then ((⟨w0, N1, N2, K, U4, U5, N6, U7⟩ : Ev), true) else (ev0, false) by unfold parQ; rw [HE'.out, hm, hF, Bool.true_and])
          clear hm hF
          cases hq : (F == s) <;> have hq' : (F.toList == s.toList) = _ := (show (F.toList == s.toList) = (F == s) by rw [Bool.eq_iff_iff, beqB_iff, beq_iff_eq]; exact ⟨toL_inj, fun e => by rw [e]⟩).trans hq
          · have Hf := Lib.hid (show parQ s w0 w1 w2 w3 w4 w5 w6 w7 = (ev0, false) by rw [HQ.out, hq]; rfl)
            have hq2 : (F.toList != s.toList) = true := by simpa using hq'
            clear hq
            go_wp2_with (first | (go_at_call 45; (with_reducible refine (HM.out _).mono ?_); rintro _ wM ⟨rfl, hxM⟩; clear e0 e1 e2 e3 e4 e5 e6 e7; have hgM := hxM.blk HgE.out; have e0 := blk_cell hgM 0 rfl; have e1 := blk_cell hgM 1 rfl; have e2 := blk_cell hgM 2 rfl; have e3 := blk_cell hgM 3 rfl; have e4 := blk_cell hgM 4 rfl; have e5 := blk_cell hgM 5 rfl; have e6 := blk_cell hgM 6 rfl; have e7 := blk_cell hgM 7 rfl; clear r0 r1 r2 r3 r4 r5 r6 r7; have hgN := hxM.blk HgR2.out; have r0 := blk_cell hgN 0 rfl; have r1 := blk_cell hgN 1 rfl; have r2 := blk_cell hgN 2 rfl; have r3 := blk_cell hgN 3 rfl; have r4 := blk_cell hgN 4 rfl; have r5 := blk_cell hgN 5 rfl; have r6 := blk_cell hgN 6 rfl; have r7 := blk_cell hgN 7 rfl; clear fR; have fR := blk_free hgN; have HgE2 := Lib.hid hgM; have HgN := Lib.hid hgN; have HxM := Lib.hid (HxY.out.trans hxM); clear hxM hgM hgN) | (go_at_call 49; (with_reducible refine (HF.out _).mono ?_); rintro _ wF ⟨rfl, hxF⟩; clear e0 e1 e2 e3 e4 e5 e6 e7; have hgM := hxF.blk HgE2.out; have e0 := blk_cell hgM 0 rfl; have e1 := blk_cell hgM 1 rfl; have e2 := blk_cell hgM 2 rfl; have e3 := blk_cell hgM 3 rfl; have e4 := blk_cell hgM 4 rfl; have e5 := blk_cell hgM 5 rfl; have e6 := blk_cell hgM 6 rfl; have e7 := blk_cell hgM 7 rfl; clear r0 r1 r2 r3 r4 r5 r6 r7; have hgN := hxF.blk HgN.out; have r0 := blk_cell hgN 0 rfl; have r1 := blk_cell hgN 1 rfl; have r2 := blk_cell hgN 2 rfl; have r3 := blk_cell hgN 3 rfl; have r4 := blk_cell hgN 4 rfl; have r5 := blk_cell hgN 5 rfl; have r6 := blk_cell hgN 6 rfl; have r7 := blk_cell hgN 7 rfl; clear fR; have fR := blk_free hgN; have HxF := Lib.hid (HxM.out.trans hxF); clear hxF hgM hgN))
            refine bodyPost_ret (v := .tuple #[.agg #[.string ⟨#[]⟩, .int .i64 0, .int .i64 0, .int .i64 0, .string ⟨#[]⟩, .string ⟨#[]⟩, .int .i64 0, .string ⟨#[]⟩], .bool false]) (by simp [results, Tryd.results47, go_sem, *]) rfl ⟨by rw [Hf.out]; rfl, ?_⟩
            have hx := HxF.out
            repeat (first | with_reducible exact hx | with_reducible exact Keeps.refl _ _ | with_reducible refine Keeps.drew ?_ | with_reducible refine Keeps.drewN ?_ _ | with_reducible refine Keeps.alloc ?_ _ | with_reducible refine Keeps.setCell ?_ (by first | (intro h; simp at h; done) | (intro _; simp; done) | (intro _; simp; omega) | (intro h; simp at h; omega)) _)
          · have Hf := Lib.hid (show parQ s w0 w1 w2 w3 w4 w5 w6 w7 = ((⟨w0, N1, N2, K, U4, U5, N6, U7⟩ : Ev), true) by rw [HQ.out, hq]; rfl)
            have hq2 : (F.toList != s.toList) = false := by simpa using hq'
            clear hq
            go_wp2_with (first | (go_at_call 45; (with_reducible refine (HM.out _).mono ?_); rintro _ wM ⟨rfl, hxM⟩; clear e0 e1 e2 e3 e4 e5 e6 e7; have hgM := hxM.blk HgE.out; have e0 := blk_cell hgM 0 rfl; have e1 := blk_cell hgM 1 rfl; have e2 := blk_cell hgM 2 rfl; have e3 := blk_cell hgM 3 rfl; have e4 := blk_cell hgM 4 rfl; have e5 := blk_cell hgM 5 rfl; have e6 := blk_cell hgM 6 rfl; have e7 := blk_cell hgM 7 rfl; clear r0 r1 r2 r3 r4 r5 r6 r7; have hgN := hxM.blk HgR2.out; have r0 := blk_cell hgN 0 rfl; have r1 := blk_cell hgN 1 rfl; have r2 := blk_cell hgN 2 rfl; have r3 := blk_cell hgN 3 rfl; have r4 := blk_cell hgN 4 rfl; have r5 := blk_cell hgN 5 rfl; have r6 := blk_cell hgN 6 rfl; have r7 := blk_cell hgN 7 rfl; clear fR; have fR := blk_free hgN; have HgE2 := Lib.hid hgM; have HgN := Lib.hid hgN; have HxM := Lib.hid (HxY.out.trans hxM); clear hxM hgM hgN) | (go_at_call 49; (with_reducible refine (HF.out _).mono ?_); rintro _ wF ⟨rfl, hxF⟩; clear e0 e1 e2 e3 e4 e5 e6 e7; have hgM := hxF.blk HgE2.out; have e0 := blk_cell hgM 0 rfl; have e1 := blk_cell hgM 1 rfl; have e2 := blk_cell hgM 2 rfl; have e3 := blk_cell hgM 3 rfl; have e4 := blk_cell hgM 4 rfl; have e5 := blk_cell hgM 5 rfl; have e6 := blk_cell hgM 6 rfl; have e7 := blk_cell hgM 7 rfl; clear r0 r1 r2 r3 r4 r5 r6 r7; have hgN := hxF.blk HgN.out; have r0 := blk_cell hgN 0 rfl; have r1 := blk_cell hgN 1 rfl; have r2 := blk_cell hgN 2 rfl; have r3 := blk_cell hgN 3 rfl; have r4 := blk_cell hgN 4 rfl; have r5 := blk_cell hgN 5 rfl; have r6 := blk_cell hgN 6 rfl; have r7 := blk_cell hgN 7 rfl; clear fR; have fR := blk_free hgN; have HxF := Lib.hid (HxM.out.trans hxF); clear hxF hgM hgN))
            refine bodyPost_ret (v := .tuple #[.agg #[.string w0, .int .i64 N1, .int .i64 N2, .int .i64 K, .string U4, .string U5, .int .i64 N6, .string U7], .bool true]) (by simp [results, Tryd.results47, go_sem, *]) rfl ⟨by rw [Hf.out]; rfl, ?_⟩
            have hx := HxF.out
            repeat (first | with_reducible exact hx | with_reducible exact Keeps.refl _ _ | with_reducible refine Keeps.drew ?_ | with_reducible refine Keeps.drewN ?_ _ | with_reducible refine Keeps.alloc ?_ _ | with_reducible refine Keeps.setCell ?_ (by first | (intro h; simp at h; done) | (intro _; simp; done) | (intro _; simp; omega) | (intro h; simp at h; omega)) _)
end Go.Proofs.YtmhkgfoimkonoaaDoor
