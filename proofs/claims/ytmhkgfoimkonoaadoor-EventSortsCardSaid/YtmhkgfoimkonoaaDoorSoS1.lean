/-
  What is proved here: the library's insertion sort of a part of a row of events puts that part in order, those at one place as they stood. Conditions: at most a million events.
-/
import Derived.Test.YtmhkgfoimkonoaaDoorSoR
import Derived.Test.YtmhkgfoimkonoaaDoorQuiet
import Derived.Deep.RegionWith
namespace Go.Proofs.YtmhkgfoimkonoaaDoor
open Go Go.RowKit Go.Proofs
attribute [local go_sem ↓] Go.wp_at_zero Go.wp_at_succ
/-- In the midst of an insertion: x stands at place j, all of v behind it are greater. -/
structure InsAt (g o S : Nat) (P M R : List Ev) (x : Ev) (j : Nat) (u v : List Ev) (w wr : World) : Prop where
  row : Row wr g o S (P ++ u ++ x :: v ++ R)
  split : u ++ v = M
  pos : P.length + u.length = j
  gt : ∀ y ∈ v, lessE x y = true
  keep : Keeps (fun k => k ≠ g) w wr
theorem InsAt.done {g o S : Nat} {P M R : List Ev} {x : Ev} {j : Nat} {u v : List Ev} {w wr : World} (h : InsAt g o S P M R x j u v w wr) {Y : List Ev} (hs : Srt lessE M) (hc : Cls lessE Y M) (hu : ∀ z, u.getLast? = some z → lessE x z = false) :
    Srt lessE (u ++ x :: v) ∧ Cls lessE (Y ++ [x]) (u ++ x :: v) := by
  have h1 := h.split
  rw [← h1] at hs hc
  obtain ⟨a1, a2⟩ := ins_at lessE_swo hs h.gt hu
  exact ⟨a1, (hc.app (Cls.refl [x])).trans a2⟩
theorem InsAt.ext {g o S : Nat} {P M R : List Ev} {x : Ev} {j : Nat} {u v : List Ev} {w wr wr' : World} (h : InsAt g o S P M R x j u v w wr) (hx : Ext wr wr') : InsAt g o S P M R x j u v w wr' :=
  ⟨h.row.ext hx, h.split, h.pos, h.gt, h.keep.trans (hx.keeps _)⟩
theorem InsAt.swap {g o S : Nat} {P M R : List Ev} {x z : Ev} {j : Nat} {u v : List Ev} {w wr : World} (h : InsAt g o S P M R x j (u ++ [z]) v w wr) (hz : lessE x z = true) : InsAt g o S P M R x (j - 1) u (z :: v) w (set8 (set8 wr g (o + j * 8) z) g (o + (j - 1) * 8) x) := by
  have hp := h.pos
  simp at hp
  have e1 : P ++ (u ++ [z]) ++ x :: v ++ R = (P ++ u) ++ z :: [] ++ x :: (v ++ R) := by simp
  have hr := h.row
  rw [e1] at hr
  have hr2 := Row.set (hr.set (k := j) (by simp; omega) z) (k := j - 1) (by simp; omega) x
  rw [set_swap' (P := P ++ u) (M := []) (i := j - 1) (j := j) (by simp; omega) (by simp; omega)] at hr2
  refine ⟨?_, by rw [← h.split]; simp, by omega, fun y hy => ?_, (h.keep.trans set8_keeps).trans set8_keeps⟩
  · have e2 : P ++ u ++ x :: (z :: v) ++ R = P ++ u ++ x :: [] ++ z :: (v ++ R) := by simp
    rw [e2]; exact hr2
  · rcases List.mem_cons.1 hy with rfl | hy
    · exact hz
    · exact h.gt y hy
theorem at_mid {A B : List Ev} {x : Ev} {k : Nat} (h : A.length = k) : (A ++ x :: B)[k]? = some x := by subst h; simp
set_option maxRecDepth 100000 in
set_option maxHeartbeats 4000000 in
theorem ins_sort (g o n c S a b : Nat) (P X Q : List Ev) (w : World) (hr : Row w g o S (P ++ X ++ Q)) (ha : P.length = a) (hb : a + X.length = b) (hn : (P ++ X ++ Q).length = n) (hmax : n ≤ 1000000) :
    Calls Tryd.prog 80 #[.slice (some ⟨g, o, none⟩) n c, .int .i64 (a : Int), .int .i64 (b : Int), .func (.func 33) #[] #[]] w fun e w' => e = .returned (.tuple #[]) ∧ ∃ M, Srt lessE M ∧ Cls lessE X M ∧ Row w' g o S (P ++ M ++ Q) ∧ Keeps (fun k => k ≠ g) w w' := by
  have hn' : a + X.length + Q.length = n := by rw [← hn]; simp; omega
  have Hr := Lib.hid hr
  have Ha := Lib.hid ha
  clear hr ha hn
  go_enter Tryd.func80, Tryd.ntmps80
  go_wp2_with fail
  go_loopw [8] (fun i wr => ∃ (k : Nat) (M : List Ev), 1 ≤ k ∧ (k ≤ X.length ∨ k = 1) ∧ i = .int .i64 ((a + k : Nat) : Int) ∧ Srt lessE M ∧ Cls lessE (X.take k) M ∧ Row wr g o S (P ++ M ++ (X.drop k ++ Q)) ∧ Keeps (fun k => k ≠ g) w wr) (fun i _ => b - (intOf i).toNat)
  case atStart => exact ⟨1, X.take 1, Nat.le_refl _, .inr rfl, by go_num, srt_short (by rw [List.length_take]; omega), Cls.refl _, by
    have e : P ++ X.take 1 ++ (X.drop 1 ++ Q) = P ++ X ++ Q := by
      rw [List.append_assoc, ← List.append_assoc (X.take 1), List.take_append_drop, ← List.append_assoc]
    rw [e]; exact Hr.out, Keeps.refl _ _⟩
  case round =>
    obtain ⟨k, M, hk1, hk, rfl, hs, hc, hrow, hkeep⟩ := hrel
    by_cases hlt : k < X.length
    · have hML : M.length = k := by rw [hc.len, List.length_take]; omega
      have hdrop : X.drop k = X[k] :: X.drop (k + 1) := List.drop_eq_getElem_cons hlt
      obtain ⟨x, hx⟩ : ∃ x, x = X[k] := ⟨_, rfl⟩
      rw [← hx] at hdrop
      rw [hdrop] at hrow
      have Hst := Lib.hid (And.intro hs hc)
      have Hx := Lib.hid (show X.take (k + 1) = X.take k ++ [x] by rw [List.take_succ_eq_append_getElem hlt, hx])
      obtain ⟨R, hR⟩ : ∃ R, R = X.drop (k + 1) ++ Q := ⟨_, rfl⟩
      have HR := Lib.hid hR
      obtain ⟨i0, hi0⟩ : ∃ i0, i0 = a + k := ⟨_, rfl⟩
      rw [← hi0]
      have hib : (i0 : Int) < (b : Int) := by omega
      have hi1 : i0 ≤ 1000000 := by omega
      have Hi := Lib.hid (show InsAt g o S P M R x i0 M [] w wr from ⟨by rw [hR]; simpa using hrow, by simp, by rw [Ha.out, hML, hi0], fun _ h9 => (by cases h9), hkeep⟩)
      have Hi0 := Lib.hid hi0
      clear hs hc hrow hkeep hdrop hx hR hi0
      go_wp2_with fail
      go_loopw [9] (fun i wr' => ∃ (j : Nat) (u v : List Ev), i = .int .i64 (j : Int) ∧ InsAt g o S P M R x j u v w wr') (fun i _ => (intOf i).toNat)
      case atStart => exact ⟨i0, M, [], rfl, Hi.out⟩
      case round =>
        obtain ⟨j, u, v, rfl, hi⟩ := hrel
        have Hi2 := Lib.hid hi
        have hj := hi.pos
        have hul : u.length ≤ M.length := by rw [← hi.split]; simp
        rw [Ha.out] at hj
        clear hi
        have hu9 : u = [] ∨ ∃ u' z, u = u' ++ [z] := by
          rcases List.eq_nil_or_concat u with h9 | ⟨u', z, h9⟩
          · exact .inl h9
          · exact .inr ⟨u', z, by rw [h9, List.concat_eq_append]⟩
        rcases hu9 with rfl | ⟨u', z, rfl⟩
        · have hja : j = a := by simpa using hj.symm
          subst hja
          go_upto_region 4 with fail
          refine wp_region_ext wr (Keeps.refl _ _) (by kernel_rfl) (by kernel_rfl) ?_
          repeat (go_big_quiet_step (fail))
          refine wpQuiet_nil ?_
          rintro _ ⟨y, rfl⟩
          go_wp2_with fail
          go_roundw
          case rel =>
            obtain ⟨q1, q2⟩ := Hi2.out.done Hst.out.1 Hst.out.2 (fun z hz => by simp at hz)
            refine ⟨k + 1, _, by omega, .inl (by omega), by have := Hi0.out; congr 1; omega, q1, by rw [Hx.out]; exact q2, ?_, (Hi2.out.ext y.h).keep⟩
            have h9 := (Hi2.out.ext y.h).row
            rw [HR.out] at h9
            simpa using h9
          case measure => have := Hi0.out; simp [intOf]; omega
        · have hjp : a < j := by simp at hj; omega
          have hjn : j < n := by simp at hj hul; omega
          have e1 : P ++ (u' ++ [z]) ++ x :: v ++ R = (P ++ u') ++ z :: (x :: (v ++ R)) := by simp
          have e2 : P ++ (u' ++ [z]) ++ x :: v ++ R = (P ++ (u' ++ [z])) ++ x :: (v ++ R) := by simp
          obtain ⟨x0, x1, x2, x3, x4, x5, x6, x7⟩ := Hi2.out.row.cells (k := j) (e := x) (by rw [e2]; exact at_mid (by rw [List.length_append, Ha.out]; exact hj))
          obtain ⟨z0, z1, z2, z3, z4, z5, z6, z7⟩ := Hi2.out.row.cells (k := j - 1) (e := z) (by rw [e1]; exact at_mid (by rw [List.length_append, Ha.out]; simp at hj; omega))
          have hgl := Hi2.out.row.lt
          have hj0 : (0 : Int) < (j : Int) := by omega
          have hj1 : (a : Int) < (j : Int) := by omega
          have hj2 : (j : Int) < (n : Int) := by omega
          have CC := Lib.hid (fun (W : World) => ev_Compare x z W)
          have hcn := cmpE_neg (a := x) (b := z)
          obtain ⟨cz, hcz⟩ : ∃ cz, cz = cmpE x z := ⟨_, rfl⟩
          rw [← hcz] at CC hcn
          clear e1 e2 hcz
          cases hlz : lessE x z
          · rw [hlz] at hcn
            have hcn' : ¬ cz < 0 := by simpa using hcn
            clear hcn
            go_upto_region 4 with fail
            refine wp_region_ext wr (Keeps.refl _ _) (by kernel_rfl) (by kernel_rfl) ?_
            have hcell := fun (y : XW wr) => y.cell
            repeat (go_big_quiet_step (first | (go_at_call 33; with_reducible exact ext_calls (CC.out _))))
            refine wpQuiet_nil ?_
            rintro _ ⟨y, rfl⟩
            clear hcell x0 x1 x2 x3 x4 x5 x6 x7 z0 z1 z2 z3 z4 z5 z6 z7
            go_wp2_with fail
            go_roundw
            case rel =>
              obtain ⟨q1, q2⟩ := Hi2.out.done Hst.out.1 Hst.out.2 (fun z' hz' => by simp at hz'; subst hz'; exact hlz)
              refine ⟨k + 1, _, by omega, .inl (by omega), by have := Hi0.out; congr 1; omega, q1, by rw [Hx.out]; exact q2, ?_, (Hi2.out.ext y.h).keep⟩
              have h9 := (Hi2.out.ext y.h).row
              rw [HR.out] at h9
              simpa using h9
            case measure => have := Hi0.out; simp [intOf]; omega
          · rw [hlz] at hcn
            have hcn' : cz < 0 := by simpa using hcn
            clear hcn
            go_upto_region 4 with fail
            refine wp_region_ext wr (Keeps.refl _ _) (by kernel_rfl) (by kernel_rfl) ?_
            have hcell := fun (y : XW wr) => y.cell
            repeat (go_big_quiet_step (first | (go_at_call 33; with_reducible exact ext_calls (CC.out _))))
            refine wpQuiet_nil ?_
            rintro _ ⟨y, rfl⟩
            clear hcell x0 x1 x2 x3 x4 x5 x6 x7 z0 z1 z2 z3 z4 z5 z6 z7 CC
            obtain ⟨Y, hY⟩ : ∃ Y, Y = y.w := ⟨_, rfl⟩
            have Hi3 := Lib.hid (show InsAt g o S P M R x j (u' ++ [z]) v w Y by rw [hY]; exact Hi2.out.ext y.h)
            rw [← hY]
            clear hY
            have e1 : P ++ (u' ++ [z]) ++ x :: v ++ R = (P ++ u') ++ z :: (x :: (v ++ R)) := by simp
            have e2 : P ++ (u' ++ [z]) ++ x :: v ++ R = (P ++ (u' ++ [z])) ++ x :: (v ++ R) := by simp
            obtain ⟨x0, x1, x2, x3, x4, x5, x6, x7⟩ := Hi3.out.row.cells (k := j) (e := x) (by rw [e2]; exact at_mid (by rw [List.length_append, Ha.out]; exact hj))
            obtain ⟨z0, z1, z2, z3, z4, z5, z6, z7⟩ := Hi3.out.row.cells (k := j - 1) (e := z) (by rw [e1]; exact at_mid (by rw [List.length_append, Ha.out]; simp at hj; omega))
            have hfree := Hi3.out.row.free
            clear e1 e2
            have q0 : (0 : Int) ≤ (j : Int) - 1 := by omega
            have q1 : (j : Int) - 1 < (n : Int) := by omega
            have q2 : IntKind.i64.wrap ((j : Int) - 1) = (j : Int) - 1 := by rw [IntKind.wrap_i64]; omega
            have q3 : (0 : Int) ≤ (j : Int) := by omega
            go_upto_region 6 with fail
            go_region_with fail
            all_goals
              have hsw := (Hi3.out.swap hlz).ext (Keeps.drew (Keeps.refl _ _))
              obtain ⟨Z, hZ⟩ : ∃ Z, Z = (set8 (set8 Y g (o + j * 8) z) g (o + (j - 1) * 8) x).drew := ⟨_, rfl⟩
              rw [← hZ] at hsw
              unfold set8 at hZ
              rw [← hZ]
              have Hi4 := Lib.hid hsw
              clear hsw hZ x0 x1 x2 x3 x4 x5 x6 x7 z0 z1 z2 z3 z4 z5 z6 z7 hfree
              go_wp2_with fail
              refine ⟨⟨j - 1, u', z :: v, by congr 1; omega, Hi4.out⟩, ?_⟩
              simp [intOf]; omega
    · have hxl : X.take k = X := List.take_of_length_le (by omega)
      have hxd : X.drop k = [] := List.drop_eq_nil_of_le (by omega)
      rw [hxl] at hc
      rw [hxd] at hrow
      have Hend := Lib.hid (show ∃ M, Srt lessE M ∧ Cls lessE X M ∧ Row wr g o S (P ++ M ++ Q) ∧ Keeps (fun k => k ≠ g) w wr from ⟨M, hs, hc, by simpa using hrow, hkeep⟩)
      clear hs hc hrow hkeep hxl hxd
      go_wp2_with fail
      exact ⟨rfl, .tuple #[], by simp [results, Tryd.results80], rfl, Hend.out⟩
end Go.Proofs.YtmhkgfoimkonoaaDoor
