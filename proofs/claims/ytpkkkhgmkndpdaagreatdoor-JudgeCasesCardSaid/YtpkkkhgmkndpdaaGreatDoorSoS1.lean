/-
  What is proved here: the library's insertion sort of a part of a row of events puts that part in order, those at one place as they stood. Conditions: at most a million events.
  the library's swapRange and rotate at a row of events: parts change places. Conditions: at most a million events.
  the library's rotate at a row of events: two parts beside each other change places. Conditions: at most a million events.
  the library's symMerge at a row of events, where the first part is one event. Conditions: at most a million events.
  the library's symMerge at a row of events, where the second part is one event. Conditions: at most a million events.
  the library's symMerge at a row of events: how a place is sought at which both parts are parted, and the whole. Conditions: at most a million events.
  the library's symMerge at a row of events (definitions). Conditions: at most a million events.
-/
import Derived.Test.YtpkkkhgmkndpdaaGreatDoorSoR
import Derived.Test.YtpkkkhgmkndpdaaGreatDoorBase
import Derived.Deep.RegionWith
namespace Go.Proofs.YtpkkkhgmkndpdaaGreatDoor
open Go Go.RowKit Go.Proofs
attribute [local go_sem ↓] Go.wp_at_zero Go.wp_at_succ
/-- In the midst of an insertion: x stands at place j, all of v behind it are greater. -/
structure InsAt (g o S : Nat) (P M R : List Ev) (x : Ev) (j : Nat) (u v : List Ev) (w wr : World) : Prop where
  row : Row wr g o S (P ++ u ++ x :: v ++ R)
  split : u ++ v = M
  pos : P.length + u.length = j
  gt : ∀ y ∈ v, lessE x y = true
  keep : Keeps (fun k => k ≠ g) w wr
theorem InsAt.done {g o S : Nat} {P M R : List Ev} {x : Ev} {j : Nat} {u v : List Ev} {w wr : World} (h : InsAt g o S P M R x j u v w wr) {Y : List Ev} (hs : Srt lessE M) (hc : Cls lessE Y M) (hu : ∀ z, u.getLast? = some z → lessE x z = false) :
    Srt lessE (u ++ x :: v) ∧ Cls lessE (Y ++ [x]) (u ++ x :: v) := by
  have h1 := h.split
  rw [← h1] at hs hc
  obtain ⟨a1, a2⟩ := ins_at lessE_swo hs h.gt hu
  exact ⟨a1, (hc.app (Cls.refl [x])).trans a2⟩
theorem InsAt.ext {g o S : Nat} {P M R : List Ev} {x : Ev} {j : Nat} {u v : List Ev} {w wr wr' : World} (h : InsAt g o S P M R x j u v w wr) (hx : Ext wr wr') : InsAt g o S P M R x j u v w wr' :=
  ⟨h.row.ext hx, h.split, h.pos, h.gt, h.keep.trans (hx.keeps _)⟩
theorem InsAt.swap {g o S : Nat} {P M R : List Ev} {x z : Ev} {j : Nat} {u v : List Ev} {w wr : World} (h : InsAt g o S P M R x j (u ++ [z]) v w wr) (hz : lessE x z = true) : InsAt g o S P M R x (j - 1) u (z :: v) w (set8 (set8 wr g (o + j * 8) z) g (o + (j - 1) * 8) x) := by
  have hp := h.pos
  simp at hp
  have e1 : P ++ (u ++ [z]) ++ x :: v ++ R = (P ++ u) ++ z :: [] ++ x :: (v ++ R) := by simp
  have hr := h.row
  rw [e1] at hr
  have hr2 := Row.set (hr.set (k := j) (by simp; omega) z) (k := j - 1) (by simp; omega) x
  rw [set_swap' (P := P ++ u) (M := []) (i := j - 1) (j := j) (by simp; omega) (by simp; omega)] at hr2
  refine ⟨?_, by rw [← h.split]; simp, by omega, fun y hy => ?_, (h.keep.trans set8_keeps).trans set8_keeps⟩
  · have e2 : P ++ u ++ x :: (z :: v) ++ R = P ++ u ++ x :: [] ++ z :: (v ++ R) := by simp
    rw [e2]; exact hr2
  · rcases List.mem_cons.1 hy with rfl | hy
    · exact hz
    · exact h.gt y hy
theorem at_mid {A B : List Ev} {x : Ev} {k : Nat} (h : A.length = k) : (A ++ x :: B)[k]? = some x := by subst h; simp
set_option maxRecDepth 100000 in
set_option maxHeartbeats 4000000 in
theorem ins_sort (g o n c S a b : Nat) (P X Q : List Ev) (w : World) (hr : Row w g o S (P ++ X ++ Q)) (ha : P.length = a) (hb : a + X.length = b) (hn : (P ++ X ++ Q).length = n) (hmax : n ≤ 1000000) :
    Calls Tryz.prog 136 #[.slice (some ⟨g, o, none⟩) n c, .int .i64 (a : Int), .int .i64 (b : Int), .func (.func 46) #[] #[]] w fun e w' => e = .returned (.tuple #[]) ∧ ∃ M, Srt lessE M ∧ Cls lessE X M ∧ Row w' g o S (P ++ M ++ Q) ∧ Keeps (fun k => k ≠ g) w w' := by
  have hn' : a + X.length + Q.length = n := by rw [← hn]; simp; omega
  have Hr := Lib.hid hr
  have Ha := Lib.hid ha
  clear hr ha hn
  go_enter Tryz.func136, Tryz.ntmps136
  go_wp2_with fail
  go_loopw [8] (fun i wr => ∃ (k : Nat) (M : List Ev), 1 ≤ k ∧ (k ≤ X.length ∨ k = 1) ∧ i = .int .i64 ((a + k : Nat) : Int) ∧ Srt lessE M ∧ Cls lessE (X.take k) M ∧ Row wr g o S (P ++ M ++ (X.drop k ++ Q)) ∧ Keeps (fun k => k ≠ g) w wr) (fun i _ => b - (intOf i).toNat)
  case atStart => exact ⟨1, X.take 1, Nat.le_refl _, .inr rfl, by go_num, srt_short (by rw [List.length_take]; omega), Cls.refl _, by
    have e : P ++ X.take 1 ++ (X.drop 1 ++ Q) = P ++ X ++ Q := by
      rw [List.append_assoc, ← List.append_assoc (X.take 1), List.take_append_drop, ← List.append_assoc]
    rw [e]; exact Hr.out, Keeps.refl _ _⟩
  case round =>
    obtain ⟨k, M, hk1, hk, rfl, hs, hc, hrow, hkeep⟩ := hrel
    by_cases hlt : k < X.length
    · have hML : M.length = k := by rw [hc.len, List.length_take]; omega
      have hdrop : X.drop k = X[k] :: X.drop (k + 1) := List.drop_eq_getElem_cons hlt
      obtain ⟨x, hx⟩ : ∃ x, x = X[k] := ⟨_, rfl⟩
      rw [← hx] at hdrop
      rw [hdrop] at hrow
      have Hst := Lib.hid (And.intro hs hc)
      have Hx := Lib.hid (show X.take (k + 1) = X.take k ++ [x] by rw [List.take_succ_eq_append_getElem hlt, hx])
      obtain ⟨R, hR⟩ : ∃ R, R = X.drop (k + 1) ++ Q := ⟨_, rfl⟩
      have HR := Lib.hid hR
      obtain ⟨i0, hi0⟩ : ∃ i0, i0 = a + k := ⟨_, rfl⟩
      rw [← hi0]
      have hib : (i0 : Int) < (b : Int) := by omega
      have hi1 : i0 ≤ 1000000 := by omega
      have Hi := Lib.hid (show InsAt g o S P M R x i0 M [] w wr from ⟨by rw [hR]; simpa using hrow, by simp, by rw [Ha.out, hML, hi0], fun _ h9 => (by cases h9), hkeep⟩)
      have Hi0 := Lib.hid hi0
      clear hs hc hrow hkeep hdrop hx hR hi0
      go_wp2_with fail
      go_loopw [9] (fun i wr' => ∃ (j : Nat) (u v : List Ev), i = .int .i64 (j : Int) ∧ InsAt g o S P M R x j u v w wr') (fun i _ => (intOf i).toNat)
      case atStart => exact ⟨i0, M, [], rfl, Hi.out⟩
      case round =>
        obtain ⟨j, u, v, rfl, hi⟩ := hrel
        have Hi2 := Lib.hid hi
        have hj := hi.pos
        have hul : u.length ≤ M.length := by rw [← hi.split]; simp
        rw [Ha.out] at hj
        clear hi
        have hu9 : u = [] ∨ ∃ u' z, u = u' ++ [z] := by
          rcases List.eq_nil_or_concat u with h9 | ⟨u', z, h9⟩
          · exact .inl h9
          · exact .inr ⟨u', z, by rw [h9, List.concat_eq_append]⟩
        rcases hu9 with rfl | ⟨u', z, rfl⟩
        · have hja : j = a := by simpa using hj.symm
          subst hja
          go_upto_region 4 with fail
          refine wp_region_ext wr (Keeps.refl _ _) (by kernel_rfl) (by kernel_rfl) ?_
          repeat (go_big_quiet_step (fail))
          refine wpQuiet_nil ?_
          rintro _ ⟨y, rfl⟩
          go_wp2_with fail
          go_roundw
          case rel =>
            obtain ⟨q1, q2⟩ := Hi2.out.done Hst.out.1 Hst.out.2 (fun z hz => by simp at hz)
            refine ⟨k + 1, _, by omega, .inl (by omega), by have := Hi0.out; congr 1; omega, q1, by rw [Hx.out]; exact q2, ?_, (Hi2.out.ext y.h).keep⟩
            have h9 := (Hi2.out.ext y.h).row
            rw [HR.out] at h9
            simpa using h9
          case measure => have := Hi0.out; simp [intOf]; omega
        · have hjp : a < j := by simp at hj; omega
          have hjn : j < n := by simp at hj hul; omega
          have e1 : P ++ (u' ++ [z]) ++ x :: v ++ R = (P ++ u') ++ z :: (x :: (v ++ R)) := by simp
          have e2 : P ++ (u' ++ [z]) ++ x :: v ++ R = (P ++ (u' ++ [z])) ++ x :: (v ++ R) := by simp
          obtain ⟨x0, x1, x2, x3, x4, x5, x6, x7⟩ := Hi2.out.row.cells (k := j) (e := x) (by rw [e2]; exact at_mid (by rw [List.length_append, Ha.out]; exact hj))
          obtain ⟨z0, z1, z2, z3, z4, z5, z6, z7⟩ := Hi2.out.row.cells (k := j - 1) (e := z) (by rw [e1]; exact at_mid (by rw [List.length_append, Ha.out]; simp at hj; omega))
          have hgl := Hi2.out.row.lt
          have hj0 : (0 : Int) < (j : Int) := by omega
          have hj1 : (a : Int) < (j : Int) := by omega
          have hj2 : (j : Int) < (n : Int) := by omega
          have CC := Lib.hid (fun (W : World) => ev_Compare x z W)
          have hcn := cmpE_neg (a := x) (b := z)
          obtain ⟨cz, hcz⟩ : ∃ cz, cz = cmpE x z := ⟨_, rfl⟩
          rw [← hcz] at CC hcn
          clear e1 e2 hcz
          cases hlz : lessE x z
          · rw [hlz] at hcn
            have hcn' : ¬ cz < 0 := by simpa using hcn
            clear hcn
            go_upto_region 4 with fail
            refine wp_region_ext wr (Keeps.refl _ _) (by kernel_rfl) (by kernel_rfl) ?_
            have hcell := fun (y : XW wr) => y.cell
            repeat (go_big_quiet_step (first | (go_at_call 46; with_reducible exact ext_calls (CC.out _))))
            refine wpQuiet_nil ?_
            rintro _ ⟨y, rfl⟩
            clear hcell x0 x1 x2 x3 x4 x5 x6 x7 z0 z1 z2 z3 z4 z5 z6 z7
            go_wp2_with fail
            go_roundw
            case rel =>
              obtain ⟨q1, q2⟩ := Hi2.out.done Hst.out.1 Hst.out.2 (fun z' hz' => by simp at hz'; subst hz'; exact hlz)
              refine ⟨k + 1, _, by omega, .inl (by omega), by have := Hi0.out; congr 1; omega, q1, by rw [Hx.out]; exact q2, ?_, (Hi2.out.ext y.h).keep⟩
              have h9 := (Hi2.out.ext y.h).row
              rw [HR.out] at h9
              simpa using h9
            case measure => have := Hi0.out; simp [intOf]; omega
          · rw [hlz] at hcn
            have hcn' : cz < 0 := by simpa using hcn
            clear hcn
            go_upto_region 4 with fail
            refine wp_region_ext wr (Keeps.refl _ _) (by kernel_rfl) (by kernel_rfl) ?_
            have hcell := fun (y : XW wr) => y.cell
            repeat (go_big_quiet_step (first | (go_at_call 46; with_reducible exact ext_calls (CC.out _))))
            refine wpQuiet_nil ?_
            rintro _ ⟨y, rfl⟩
            clear hcell x0 x1 x2 x3 x4 x5 x6 x7 z0 z1 z2 z3 z4 z5 z6 z7 CC
            obtain ⟨Y, hY⟩ : ∃ Y, Y = y.w := ⟨_, rfl⟩
            have Hi3 := Lib.hid (show InsAt g o S P M R x j (u' ++ [z]) v w Y by rw [hY]; exact Hi2.out.ext y.h)
            rw [← hY]
            clear hY
            have e1 : P ++ (u' ++ [z]) ++ x :: v ++ R = (P ++ u') ++ z :: (x :: (v ++ R)) := by simp
            have e2 : P ++ (u' ++ [z]) ++ x :: v ++ R = (P ++ (u' ++ [z])) ++ x :: (v ++ R) := by simp
            obtain ⟨x0, x1, x2, x3, x4, x5, x6, x7⟩ := Hi3.out.row.cells (k := j) (e := x) (by rw [e2]; exact at_mid (by rw [List.length_append, Ha.out]; exact hj))
            obtain ⟨z0, z1, z2, z3, z4, z5, z6, z7⟩ := Hi3.out.row.cells (k := j - 1) (e := z) (by rw [e1]; exact at_mid (by rw [List.length_append, Ha.out]; simp at hj; omega))
            have hfree := Hi3.out.row.free
            clear e1 e2
            have q0 : (0 : Int) ≤ (j : Int) - 1 := by omega
            have q1 : (j : Int) - 1 < (n : Int) := by omega
            have q2 : IntKind.i64.wrap ((j : Int) - 1) = (j : Int) - 1 := by rw [IntKind.wrap_i64]; omega
            have q3 : (0 : Int) ≤ (j : Int) := by omega
            go_upto_region 6 with fail
            go_region_with fail
            all_goals
              have hsw := (Hi3.out.swap hlz).ext (Keeps.drew (Keeps.refl _ _))
              obtain ⟨Z, hZ⟩ : ∃ Z, Z = (set8 (set8 Y g (o + j * 8) z) g (o + (j - 1) * 8) x).drew := ⟨_, rfl⟩
              rw [← hZ] at hsw
              unfold set8 at hZ
              rw [← hZ]
              have Hi4 := Lib.hid hsw
              clear hsw hZ x0 x1 x2 x3 x4 x5 x6 x7 z0 z1 z2 z3 z4 z5 z6 z7 hfree
              go_wp2_with fail
              refine ⟨⟨j - 1, u', z :: v, by congr 1; omega, Hi4.out⟩, ?_⟩
              simp [intOf]; omega
    · have hxl : X.take k = X := List.take_of_length_le (by omega)
      have hxd : X.drop k = [] := List.drop_eq_nil_of_le (by omega)
      rw [hxl] at hc
      rw [hxd] at hrow
      have Hend := Lib.hid (show ∃ M, Srt lessE M ∧ Cls lessE X M ∧ Row wr g o S (P ++ M ++ Q) ∧ Keeps (fun k => k ≠ g) w wr from ⟨M, hs, hc, by simpa using hrow, hkeep⟩)
      clear hs hc hrow hkeep hxl hxd
      go_wp2_with fail
      exact ⟨rfl, .tuple #[], by simp [results, Tryz.results136], rfl, Hend.out⟩
end Go.Proofs.YtpkkkhgmkndpdaaGreatDoor
namespace Go.Proofs.YtpkkkhgmkndpdaaGreatDoor
open Go Go.RowKit Go.Proofs
attribute [local go_sem ↓] Go.wp_at_zero Go.wp_at_succ
structure SwAt (g o S : Nat) (P X M Y Q : List Ev) (k : Nat) (w wr : World) : Prop where
  row : Row wr g o S (P ++ (Y.take k ++ X.drop k) ++ M ++ (X.take k ++ Y.drop k) ++ Q)
  keep : Keeps (fun k => k ≠ g) w wr
theorem SwAt.forms {P X M Y Q : List Ev} {k : Nat} (hx : k < X.length) (hy : k < Y.length) :
    P ++ (Y.take k ++ X.drop k) ++ M ++ (X.take k ++ Y.drop k) ++ Q = (P ++ Y.take k) ++ X[k] :: (X.drop (k + 1) ++ M ++ X.take k) ++ Y[k] :: (Y.drop (k + 1) ++ Q) ∧
    P ++ (Y.take (k + 1) ++ X.drop (k + 1)) ++ M ++ (X.take (k + 1) ++ Y.drop (k + 1)) ++ Q = (P ++ Y.take k) ++ Y[k] :: (X.drop (k + 1) ++ M ++ X.take k) ++ X[k] :: (Y.drop (k + 1) ++ Q) := by
  constructor
  · rw [List.drop_eq_getElem_cons hx, List.drop_eq_getElem_cons hy]; simp only [List.append_assoc, List.cons_append]
  · rw [List.take_succ_eq_append_getElem hx, List.take_succ_eq_append_getElem hy]; simp only [List.append_assoc, List.cons_append, List.nil_append]
theorem SwAt.swap {g o S : Nat} {P X M Y Q : List Ev} {k : Nat} {w wr : World} (h : SwAt g o S P X M Y Q k w wr) {m : Nat} (hX : X.length = m) (hY : Y.length = m) (hk : k < m) {x y : Ev} (hx : X[k]? = some x) (hy : Y[k]? = some y) {a b : Nat} (ha : P.length = a) (hb : a + m + M.length = b) :
    SwAt g o S P X M Y Q (k + 1) w (set8 (set8 wr g (o + (a + k) * 8) y) g (o + (b + k) * 8) x) := by
  have hkx : k < X.length := by omega
  have hky : k < Y.length := by omega
  obtain ⟨f1, f2⟩ := SwAt.forms (P := P) (M := M) (Q := Q) hkx hky
  rw [List.getElem?_eq_getElem hkx] at hx
  rw [List.getElem?_eq_getElem hky] at hy
  have ex : X[k] = x := Option.some.inj hx
  have ey : Y[k] = y := Option.some.inj hy
  rw [ex, ey] at f1 f2
  have hr := h.row
  rw [f1] at hr
  have hr2 := Row.set (hr.set (k := a + k) (by simp; omega) y) (k := b + k) (by simp; omega) x
  rw [set_swap (P := P ++ Y.take k) (M := X.drop (k + 1) ++ M ++ X.take k) (i := a + k) (j := b + k) (by simp; omega) (by simp; omega)] at hr2
  refine ⟨by rw [f2]; exact hr2, (h.keep.trans set8_keeps).trans set8_keeps⟩
theorem SwAt.ext {g o S : Nat} {P X M Y Q : List Ev} {k : Nat} {w wr wr' : World} (h : SwAt g o S P X M Y Q k w wr) (hx : Ext wr wr') : SwAt g o S P X M Y Q k w wr' := ⟨h.row.ext hx, h.keep.trans (hx.keeps _)⟩
set_option maxRecDepth 100000 in
set_option maxHeartbeats 4000000 in
theorem swap_range (g o n c S a b m : Nat) (P X M Y Q : List Ev) (w : World) (hr : Row w g o S (P ++ X ++ M ++ Y ++ Q)) (hX : X.length = m) (hY : Y.length = m) (ha : P.length = a) (hb : a + m + M.length = b) (hn : (P ++ X ++ M ++ Y ++ Q).length = n) (hmax : n ≤ 1000000) :
    Calls Tryz.prog 172 #[.slice (some ⟨g, o, none⟩) n c, .int .i64 (a : Int), .int .i64 (b : Int), .int .i64 (m : Int), .func (.func 46) #[] #[]] w fun e w' => e = .returned (.tuple #[]) ∧ Row w' g o S (P ++ Y ++ M ++ X ++ Q) ∧ Keeps (fun k => k ≠ g) w w' := by
  have hn' : b + m + Q.length = n := by rw [← hn]; simp; omega
  have H0 := Lib.hid (show SwAt g o S P X M Y Q 0 w w from ⟨by simpa using hr, Keeps.refl _ _⟩)
  have Hs := Lib.hid (And.intro hX (And.intro hY (And.intro ha hb)))
  have hab : a + m ≤ b := by omega
  clear hr hn ha hb
  go_enter Tryz.func172, Tryz.ntmps172
  go_wp2_with fail
  go_loopw [10] (fun i wr => ∃ k : Nat, k ≤ m ∧ i = .int .i64 (k : Int) ∧ SwAt g o S P X M Y Q k w wr) (fun i _ => m - (intOf i).toNat)
  case atStart => exact ⟨0, Nat.zero_le _, rfl, H0.out⟩
  case round =>
    obtain ⟨k, hk, rfl, hat⟩ := hrel
    have Hat := Lib.hid hat
    clear hat
    by_cases hlt : k < m
    · obtain ⟨x, hx⟩ : ∃ x, X[k]? = some x := ⟨_, List.getElem?_eq_getElem (by omega)⟩
      obtain ⟨y, hy⟩ : ∃ y, Y[k]? = some y := ⟨_, List.getElem?_eq_getElem (by omega)⟩
      obtain ⟨f1, _⟩ := SwAt.forms (P := P) (M := M) (Q := Q) (show k < X.length by omega) (show k < Y.length by omega)
      have ex : X[k]'(by omega) = x := by rw [List.getElem?_eq_getElem (by omega)] at hx; exact Option.some.inj hx
      have ey : Y[k]'(by omega) = y := by rw [List.getElem?_eq_getElem (by omega)] at hy; exact Option.some.inj hy
      rw [ex, ey] at f1
      have hrow := Hat.out.row
      rw [f1] at hrow
      have e2 : (P ++ Y.take k) ++ x :: (X.drop (k + 1) ++ M ++ X.take k) ++ y :: (Y.drop (k + 1) ++ Q) = (P ++ Y.take k) ++ x :: ((X.drop (k + 1) ++ M ++ X.take k) ++ y :: (Y.drop (k + 1) ++ Q)) := by simp
      obtain ⟨x0, x1, x2, x3, x4, x5, x6, x7⟩ := hrow.cells (k := a + k) (e := x) (by rw [e2]; exact at_mid (by have := Hs.out.2.2.1; simp; omega))
      obtain ⟨y0, y1, y2, y3, y4, y5, y6, y7⟩ := hrow.cells (k := b + k) (e := y) (at_mid (by have := Hs.out.2.2; simp; omega))
      have hfree := hrow.free
      have Hsw := Lib.hid (Hat.out.swap Hs.out.1 Hs.out.2.1 hlt hx hy Hs.out.2.2.1 Hs.out.2.2.2)
      have q0 : (0 : Int) ≤ (a : Int) + (k : Int) := by omega
      have q1 : (a : Int) + (k : Int) < (n : Int) := by omega
      have q2 : IntKind.i64.wrap ((a : Int) + (k : Int)) = (a : Int) + (k : Int) := by rw [IntKind.wrap_i64]; omega
      have p0 : (0 : Int) ≤ (b : Int) + (k : Int) := by omega
      have p1 : (b : Int) + (k : Int) < (n : Int) := by omega
      have p2 : IntKind.i64.wrap ((b : Int) + (k : Int)) = (b : Int) + (k : Int) := by rw [IntKind.wrap_i64]; omega
      have hkm : (k : Int) < (m : Int) := by omega
      have r1 : ((a : Int) + (k : Int)).toNat = a + k := by omega
      have r2 : ((b : Int) + (k : Int)).toNat = b + k := by omega
      have hne : a + k ≠ b + k := by omega
      clear hx hy f1 ex ey hrow e2
      go_upto_region 3 with fail
      go_region_with fail
      all_goals
        have hsw := Hsw.out.ext (Keeps.drew (Keeps.refl _ _))
        obtain ⟨Z, hZ⟩ : ∃ Z, Z = (set8 (set8 wr g (o + (a + k) * 8) y) g (o + (b + k) * 8) x).drew := ⟨_, rfl⟩
        rw [← hZ] at hsw
        unfold set8 at hZ
        rw [← hZ]
        have Hz := Lib.hid hsw
        clear hsw hZ x0 x1 x2 x3 x4 x5 x6 x7 y0 y1 y2 y3 y4 y5 y6 y7 hfree
        go_wp2_with fail
        refine ⟨⟨k + 1, by omega, by go_num, Hz.out⟩, ?_⟩
        simp [intOf]; omega
    · obtain rfl : k = m := by omega
      have hrow := Hat.out.row
      have h1 : Y.take k = Y := List.take_of_length_le (by omega)
      have h2 : X.drop k = [] := List.drop_eq_nil_of_le (by omega)
      have h3 : X.take k = X := List.take_of_length_le (by omega)
      have h4 : Y.drop k = [] := List.drop_eq_nil_of_le (by omega)
      rw [h1, h2, h3, h4] at hrow
      have Hend := Lib.hid (show Row wr g o S (P ++ Y ++ M ++ X ++ Q) ∧ Keeps (fun k => k ≠ g) w wr from ⟨by simpa using hrow, Hat.out.keep⟩)
      clear hrow h1 h2 h3 h4
      go_wp2_with fail
      exact ⟨rfl, .tuple #[], by simp [results, Tryz.results172], rfl, Hend.out⟩
end Go.Proofs.YtpkkkhgmkndpdaaGreatDoor
namespace Go.Proofs.YtpkkkhgmkndpdaaGreatDoor
open Go Go.RowKit Go.Proofs
attribute [local go_sem ↓] Go.wp_at_zero Go.wp_at_succ
structure RoAt (g o S m i j : Nat) (T : List Ev) (P1 U V Q1 : List Ev) (w wr : World) : Prop where
  row : Row wr g o S (P1 ++ U ++ V ++ Q1)
  keep : Keeps (fun k => k ≠ g) w wr
  aim : P1 ++ V ++ U ++ Q1 = T
  hi : U.length = i
  hj : V.length = j
  hm : P1.length + i = m
set_option maxRecDepth 100000 in
set_option maxHeartbeats 4000000 in
theorem rotate (g o n c S a m b : Nat) (P U V Q : List Ev) (w : World) (hr : Row w g o S (P ++ U ++ V ++ Q)) (ha : P.length = a) (hm : a + U.length = m) (hb : m + V.length = b) (hn : (P ++ U ++ V ++ Q).length = n) (hU : 0 < U.length) (hV : 0 < V.length) (hmax : n ≤ 1000000) :
    Calls Tryz.prog 160 #[.slice (some ⟨g, o, none⟩) n c, .int .i64 (a : Int), .int .i64 (m : Int), .int .i64 (b : Int), .func (.func 46) #[] #[]] w fun e w' => e = .returned (.tuple #[]) ∧ Row w' g o S (P ++ V ++ U ++ Q) ∧ Keeps (fun k => k ≠ g) w w' := by
  have hn' : b + Q.length = n := by rw [← hn]; simp; omega
  obtain ⟨T, hT⟩ : ∃ T, T = P ++ V ++ U ++ Q := ⟨_, rfl⟩
  have hTl : T.length = n := by rw [hT, ← hn]; simp; omega
  have H0 := Lib.hid (show RoAt g o S m (m - a) (b - m) T P U V Q w w from ⟨hr, Keeps.refl _ _, hT.symm, by omega, by omega, by omega⟩)
  rw [← hT]
  have HTl := Lib.hid hTl
  have hma : a < m := by omega
  have hmb : m < b := by omega
  have hbn : b ≤ n := by omega
  clear hr hn hT hTl ha hm hb hn' hU hV
  go_enter Tryz.func160, Tryz.ntmps160
  go_wp2_with fail
  go_loopw [10, 11] (fun iv jv wr => ∃ (i j : Nat) (P1 U1 V1 Q1 : List Ev), 0 < i ∧ 0 < j ∧ i ≤ n ∧ j ≤ n ∧ iv = .int .i64 (i : Int) ∧ jv = .int .i64 (j : Int) ∧ RoAt g o S m i j T P1 U1 V1 Q1 w wr) (fun iv jv _ => (intOf iv).toNat + (intOf jv).toNat)
  case atStart => exact ⟨m - a, b - m, P, U, V, Q, by omega, by omega, by omega, by omega, by congr 1; omega, by congr 1; omega, H0.out⟩
  case round =>
    obtain ⟨i, j, P1, U1, V1, Q1, hi0, hj0, hin, hjn, rfl, rfl, hat⟩ := hrel
    have hlen : P1.length + i + j + Q1.length = n := by
      have h1 := HTl.out
      rw [← hat.aim] at h1
      simp at h1
      have := hat.hi
      have := hat.hj
      omega
    have him := hat.hm
    have Hat := Lib.hid hat
    clear hat
    by_cases hij : i = j
    · subst hij
      have C := swap_range g o n c S P1.length m i P1 U1 [] V1 Q1 wr (by simpa using Hat.out.row) Hat.out.hi Hat.out.hj rfl (by simp; omega) (by have := Hat.out.hi; have := Hat.out.hj; simp; omega) hmax
      rw [show ((P1.length : Nat) : Int) = (m : Int) - (i : Int) by omega] at C
      have C := Lib.hid C
      have t1 : ((i : Int) != (i : Int)) = false := by simp
      go_wp2_with fail
      refine C.out.mono ?_
      rintro _ w2 ⟨rfl, hr2, hk2⟩
      have Hend := Lib.hid (show Row w2 g o S T ∧ Keeps (fun k => k ≠ g) w w2 from ⟨by rw [← Hat.out.aim]; simpa using hr2, Hat.out.keep.trans hk2⟩)
      clear hr2 hk2
      go_wp2_with fail
      exact ⟨rfl, .tuple #[], by simp [results, Tryz.results160], rfl, Hend.out⟩
    · have t1 : ((i : Int) != (j : Int)) = true := by simp; omega
      by_cases hlt : j < i
      · have hlt' : (j : Int) < (i : Int) := by omega
        have eU : U1 = U1.take j ++ U1.drop j := (List.take_append_drop j U1).symm
        have hUl := Hat.out.hi
        have hVl := Hat.out.hj
        have C := swap_range g o n c S P1.length m j P1 (U1.take j) (U1.drop j) V1 Q1 wr (by have h9 := Hat.out.row; rw [eU] at h9; simpa using h9) (by rw [List.length_take]; omega) hVl rfl (by rw [List.length_drop]; omega) (by simp; omega) hmax
        rw [show ((P1.length : Nat) : Int) = (m : Int) - (i : Int) by omega] at C
        have C := Lib.hid C
        clear eU
        go_wp2_with fail
        refine C.out.mono ?_
        rintro _ w2 ⟨rfl, hr2, hk2⟩
        have Hn := Lib.hid (show RoAt g o S m (i - j) j T (P1 ++ V1) (U1.drop j) (U1.take j) Q1 w w2 from ⟨hr2, Hat.out.keep.trans hk2, by rw [← Hat.out.aim]; simp, by rw [List.length_drop]; omega, by rw [List.length_take]; omega, by simp; omega⟩)
        clear hr2 hk2
        go_wp2_with fail
        go_roundw
        case rel => exact ⟨i - j, j, _, _, _, _, by omega, hj0, by omega, hjn, by congr 1; omega, rfl, Hn.out⟩
        case measure => simp [intOf]; omega
      · have hlt' : ¬ (j : Int) < (i : Int) := by omega
        have eV : V1 = V1.take (j - i) ++ V1.drop (j - i) := (List.take_append_drop (j - i) V1).symm
        have hUl := Hat.out.hi
        have hVl := Hat.out.hj
        have C := swap_range g o n c S P1.length (m + j - i) i P1 U1 (V1.take (j - i)) (V1.drop (j - i)) Q1 wr (by have h9 := Hat.out.row; rw [eV] at h9; simpa using h9) hUl (by rw [List.length_drop]; omega) rfl (by rw [List.length_take]; omega) (by simp; omega) hmax
        rw [show ((P1.length : Nat) : Int) = (m : Int) - (i : Int) by omega, show ((m + j - i : Nat) : Int) = (m : Int) + (j : Int) - (i : Int) by omega] at C
        have C := Lib.hid C
        clear eV
        go_wp2_with fail
        refine C.out.mono ?_
        rintro _ w2 ⟨rfl, hr2, hk2⟩
        have Hn := Lib.hid (show RoAt g o S m i (j - i) T P1 (V1.drop (j - i)) (V1.take (j - i)) (U1 ++ Q1) w w2 from ⟨by simpa using hr2, Hat.out.keep.trans hk2, by rw [← Hat.out.aim]; simp, by rw [List.length_drop]; omega, by rw [List.length_take]; omega, him⟩)
        clear hr2 hk2
        go_wp2_with fail
        go_roundw
        case rel => exact ⟨i, j - i, _, _, _, _, hi0, by omega, hin, by omega, rfl, by congr 1; omega, Hn.out⟩
        case measure => simp [intOf]; omega
end Go.Proofs.YtpkkkhgmkndpdaaGreatDoor
namespace Go.Proofs.YtpkkkhgmkndpdaaGreatDoor
open Go Go.RowKit Go.Proofs
attribute [local go_sem ↓] Go.wp_at_zero Go.wp_at_succ
def SymPost (g o S : Nat) (P Y Q : List Ev) (w : World) (e : Ending) (w' : World) : Prop :=
  e = .returned (.tuple #[]) ∧ ∃ M, Srt lessE M ∧ Cls lessE Y M ∧ Row w' g o S (P ++ M ++ Q) ∧ Keeps (fun k => k ≠ g) w w'
/-- A place is sought: those ahead have it, those from j on have it not. -/
structure Seek (V : List Ev) (p : Ev → Bool) (i j : Nat) : Prop where
  lo : ∀ t y, t < i → V[t]? = some y → p y = true
  hi : ∀ t y, j ≤ t → V[t]? = some y → p y = false
  le : i ≤ j
  top : j ≤ V.length
theorem Seek.start (V : List Ev) (p : Ev → Bool) : Seek V p 0 V.length := ⟨fun _ _ h _ => by omega, fun t y h hy => by have := (List.getElem?_eq_some_iff.1 hy).1; omega, Nat.zero_le _, Nat.le_refl _⟩
theorem Seek.up {V : List Ev} {p : Ev → Bool} {i j h : Nat} (hs : Seek V p i j) (hm : ∀ (s t : Nat) (x y : Ev), s ≤ t → V[s]? = some x → V[t]? = some y → p y = true → p x = true) (hh : h < j) {y : Ev} (hy : V[h]? = some y) (hp : p y = true) : Seek V p (h + 1) j :=
  ⟨fun t x ht hx => hm t h x y (by omega) hx hy hp, hs.hi, by omega, hs.top⟩
theorem Seek.down {V : List Ev} {p : Ev → Bool} {i j h : Nat} (hs : Seek V p i j) (hm : ∀ (s t : Nat) (x y : Ev), s ≤ t → V[s]? = some x → V[t]? = some y → p y = true → p x = true) (hi : i ≤ h) (hj : h < j) {y : Ev} (hy : V[h]? = some y) (hp : p y = false) : Seek V p i h :=
  ⟨hs.lo, fun t x ht hx => (by
    cases e : p x with
    | false => rfl
    | true => have := hm h t y x ht hy hx e; rw [hp] at this; cases this), hi, by have := hs.top; omega⟩
theorem Seek.parts {V : List Ev} {p : Ev → Bool} {i : Nat} (hs : Seek V p i i) : (∀ y ∈ V.take i, p y = true) ∧ ∀ y ∈ V.drop i, p y = false := by
  constructor
  · intro y hy
    obtain ⟨t, ht, e⟩ := List.mem_iff_getElem.1 hy
    rw [List.length_take] at ht
    exact hs.lo t y (by omega) (by rw [← e, List.getElem_take, List.getElem?_eq_getElem])
  · intro y hy
    obtain ⟨t, ht, e⟩ := List.mem_iff_getElem.1 hy
    rw [List.length_drop] at ht
    exact hs.hi (i + t) y (by omega) (by rw [← e, List.getElem_drop, List.getElem?_eq_getElem])
theorem srt_at {l : List Ev} (h : Srt lessE l) {s t : Nat} {x y : Ev} (hst : s ≤ t) (hx : l[s]? = some x) (hy : l[t]? = some y) : lessE y x = false := by
  obtain ⟨hs, ex⟩ := List.getElem?_eq_some_iff.1 hx
  obtain ⟨ht, ey⟩ := List.getElem?_eq_some_iff.1 hy
  rcases Nat.lt_or_ge s t with h1 | h1
  · have := List.pairwise_iff_getElem.1 h s t hs ht h1
    rw [ex, ey] at this
    exact this
  · have : s = t := by omega
    subst this
    rw [hx] at hy
    have : x = y := Option.some.inj hy
    subst this
    exact lessE_swo.irr x
/-- An event on its way through a part, step by step. -/
structure MvAt (g o S : Nat) (P V1 R : List Ev) (x : Ev) (t : Nat) (w wr : World) : Prop where
  row : Row wr g o S (P ++ V1.take t ++ x :: (V1.drop t ++ R))
  keep : Keeps (fun k => k ≠ g) w wr
theorem MvAt.form {P V1 R : List Ev} {x : Ev} {t : Nat} (h : t < V1.length) {z : Ev} (hz : V1[t]? = some z) :
    P ++ V1.take t ++ x :: (V1.drop t ++ R) = (P ++ V1.take t) ++ x :: [] ++ z :: (V1.drop (t + 1) ++ R) ∧ P ++ V1.take (t + 1) ++ x :: (V1.drop (t + 1) ++ R) = (P ++ V1.take t) ++ z :: [] ++ x :: (V1.drop (t + 1) ++ R) := by
  have e : V1[t] = z := by rw [List.getElem?_eq_getElem h] at hz; exact Option.some.inj hz
  constructor
  · rw [List.drop_eq_getElem_cons h, e]; simp only [List.append_assoc, List.cons_append, List.nil_append]
  · rw [List.take_succ_eq_append_getElem h, e]; simp only [List.append_assoc, List.cons_append, List.nil_append]
theorem MvAt.swap {g o S : Nat} {P V1 R : List Ev} {x z : Ev} {t k : Nat} {w wr : World} (h : MvAt g o S P V1 R x t w wr) (ht : t < V1.length) (hz : V1[t]? = some z) (hk : P.length + t = k) : MvAt g o S P V1 R x (t + 1) w (set8 (set8 wr g (o + k * 8) z) g (o + (k + 1) * 8) x) := by
  obtain ⟨f1, f2⟩ := MvAt.form (P := P) (R := R) (x := x) ht hz
  have hr := h.row
  rw [f1] at hr
  have hl : (P ++ V1.take t).length = k := by simp; omega
  have hr2 := Row.set (hr.set (k := k) (by simp; omega) z) (k := k + 1) (by simp; omega) x
  rw [set_swap (P := P ++ V1.take t) (M := []) (i := k) (j := k + 1) hl (by simp)] at hr2
  exact ⟨by rw [f2]; exact hr2, (h.keep.trans set8_keeps).trans set8_keeps⟩
theorem MvAt.ext {g o S : Nat} {P V1 R : List Ev} {x : Ev} {t : Nat} {w wr wr' : World} (h : MvAt g o S P V1 R x t w wr) (hx : Ext wr wr') : MvAt g o S P V1 R x t w wr' := ⟨h.row.ext hx, h.keep.trans (hx.keeps _)⟩
theorem half (i j : Nat) : ((i : Int) + (j : Int)) / 2 = (((i + j) / 2 : Nat) : Int) := by omega
set_option maxRecDepth 100000 in
set_option maxHeartbeats 8000000 in
theorem sym_A (g o n c S a m b : Nat) (P V Q : List Ev) (x : Ev) (w : World) (hr : Row w g o S (P ++ x :: V ++ Q)) (ha : P.length = a) (hm : a + 1 = m) (hb : m + V.length = b) (hn : (P ++ x :: V ++ Q).length = n) (hsV : Srt lessE V) (hmax : n ≤ 1000000) :
    Calls Tryz.prog 137 #[.slice (some ⟨g, o, none⟩) n c, .int .i64 (a : Int), .int .i64 (m : Int), .int .i64 (b : Int), .func (.func 46) #[] #[]] w (SymPost g o S P (x :: V) Q w) := by
  have hn' : b + Q.length = n := by rw [← hn]; simp; omega
  have Hr := Lib.hid hr
  have Ha := Lib.hid ha
  have HsV := Lib.hid hsV
  have Hmono := Lib.hid (show ∀ (s t : Nat) (u v : Ev), s ≤ t → V[s]? = some u → V[t]? = some v → lessE v x = true → lessE u x = true from fun s t u v hst hu hv h9 => lessE_swo.le_lt (srt_at hsV hst hu hv) h9)
  have t0 : ((m : Int) - (a : Int) == 1) = true := by rw [beq_iff_eq]; omega
  have hbn : b ≤ n := by omega
  have Hb := Lib.hid hb
  clear hr ha hn hsV hn' hb
  go_enter Tryz.func137, Tryz.ntmps137
  go_wp2_with fail
  go_loopw [10, 11] (fun iv jv wr => ∃ (i j : Nat), m ≤ i ∧ i ≤ j ∧ j ≤ b ∧ iv = .int .i64 (i : Int) ∧ jv = .int .i64 (j : Int) ∧ Seek V (fun y => lessE y x) (i - m) (j - m) ∧ Ext w wr) (fun iv jv _ => (intOf jv).toNat - (intOf iv).toNat)
  case atStart => exact ⟨m, b, Nat.le_refl _, by have := Hb.out; omega, Nat.le_refl _, rfl, rfl, by have h9 := Seek.start V (fun y => lessE y x); rw [Nat.sub_self, show b - m = V.length by have := Hb.out; omega]; exact h9, Keeps.refl _ _⟩
  case round =>
    obtain ⟨i, j, hmi, hij, hjb, rfl, rfl, hsk, hx⟩ := hrel
    have Hsk := Lib.hid hsk
    have Hx := Lib.hid hx
    have hrow := Hr.out.ext hx
    clear hsk hx
    by_cases hlt : i < j
    · have hlt' : (i : Int) < (j : Int) := by omega
      obtain ⟨h, hh⟩ : ∃ h : Nat, h = (i + j) / 2 := ⟨_, rfl⟩
      have eh : ((i : Int) + (j : Int)) / 2 = (h : Int) := by omega
      have hh1 : i ≤ h := by omega
      have hh2 : h < j := by omega
      clear hh
      obtain ⟨y, hy⟩ : ∃ y, V[h - m]? = some y := ⟨_, List.getElem?_eq_getElem (by have := Hb.out; omega)⟩
      have e1 : P ++ x :: V ++ Q = P ++ x :: (V ++ Q) := by simp
      have hyr : (P ++ x :: V ++ Q)[h]? = some y := by
        have h9 : (P ++ [x]).length = m := by have := Ha.out; simp; omega
        rw [show P ++ x :: V ++ Q = (P ++ [x]) ++ (V ++ Q) by simp, List.getElem?_append_right (by omega), h9, List.getElem?_append_left (by have := Hb.out; omega)]
        exact hy
      obtain ⟨x0, x1, x2, x3, x4, x5, x6, x7⟩ := hrow.cells (k := a) (e := x) (by rw [e1]; exact at_mid Ha.out)
      obtain ⟨y0, y1, y2, y3, y4, y5, y6, y7⟩ := hrow.cells (k := h) (e := y) hyr
      have hgl := hrow.lt
      have CC := Lib.hid (fun (W : World) => ev_Compare y x W)
      have hcn := cmpE_neg (a := y) (b := x)
      obtain ⟨cz, hcz⟩ : ∃ cz, cz = cmpE y x := ⟨_, rfl⟩
      rw [← hcz] at CC hcn
      have k0 : (0 : Int) ≤ (h : Int) := by omega
      have k1 : (h : Int) < (n : Int) := by omega
      have k2 : (0 : Int) ≤ (a : Int) := by omega
      have k3 : (a : Int) < (n : Int) := by omega
      have Hy := Lib.hid hy
      clear hcz e1 hyr hrow hy
      cases hlz : lessE y x
      · rw [hlz] at hcn
        have hcn' : ¬ cz < 0 := by simpa using hcn
        have Hs2 := Lib.hid (Hsk.out.down Hmono.out (show i - m ≤ h - m by omega) (by omega) Hy.out hlz)
        clear hcn
        go_upto_region 5 with fail
        refine wp_region_ext wr (Keeps.refl _ _) (by kernel_rfl) (by kernel_rfl) ?_
        have hcell := fun (y : XW wr) => y.cell
        repeat (go_big_quiet_step (first | (go_at_call 46; with_reducible exact ext_calls (CC.out _))))
        refine wpQuiet_nil ?_
        rintro _ ⟨yw, rfl⟩
        clear hcell x0 x1 x2 x3 x4 x5 x6 x7 y0 y1 y2 y3 y4 y5 y6 y7
        go_wp2_with fail
        go_roundw
        case rel => exact ⟨i, h, hmi, hh1, by omega, rfl, rfl, Hs2.out, Hx.out.trans yw.h⟩
        case measure => simp [intOf]; omega
      · rw [hlz] at hcn
        have hcn' : cz < 0 := by simpa using hcn
        have Hs2 := Lib.hid (Hsk.out.up Hmono.out (show h - m < j - m by omega) Hy.out hlz)
        clear hcn
        go_upto_region 5 with fail
        refine wp_region_ext wr (Keeps.refl _ _) (by kernel_rfl) (by kernel_rfl) ?_
        have hcell := fun (y : XW wr) => y.cell
        repeat (go_big_quiet_step (first | (go_at_call 46; with_reducible exact ext_calls (CC.out _))))
        refine wpQuiet_nil ?_
        rintro _ ⟨yw, rfl⟩
        clear hcell x0 x1 x2 x3 x4 x5 x6 x7 y0 y1 y2 y3 y4 y5 y6 y7
        go_wp2_with fail
        go_roundw
        case rel => exact ⟨h + 1, j, by omega, by omega, hjb, by go_num, rfl, by rw [show h + 1 - m = h - m + 1 by omega]; exact Hs2.out, Hx.out.trans yw.h⟩
        case measure => simp [intOf]; omega
    · obtain rfl : i = j := by omega
      obtain ⟨s1, s2⟩ := Hsk.out.parts
      have hVl : (V.take (i - m)).length = i - m := by rw [List.length_take]; have := Hb.out; omega
      have eV := List.take_append_drop (i - m) V
      have HM := Lib.hid (ins_ahead lessE_swo (x := x) (v1 := V.take (i - m)) (v2 := V.drop (i - m)) (by rw [eV]; exact HsV.out) s1 s2)
      have H1 := Lib.hid (show MvAt g o S P (V.take (i - m)) (V.drop (i - m) ++ Q) x 0 w wr from ⟨by
        rw [List.take_zero, List.drop_zero, List.append_nil, ← List.append_assoc (V.take (i - m)), eV]
        simpa using hrow, Hx.out.keeps _⟩)
      have HeV := Lib.hid eV
      generalize V.take (i - m) = V1 at *
      generalize V.drop (i - m) = V2 at *
      have hti : ¬ (i : Int) < (i : Int) := by omega
      clear s1 s2 eV hrow
      go_wp2_with fail
      go_loopw [13] (fun kv wr' => ∃ (t : Nat), t ≤ V1.length ∧ kv = .int .i64 ((a + t : Nat) : Int) ∧ MvAt g o S P V1 (V2 ++ Q) x t w wr') (fun kv _ => i - (intOf kv).toNat)
      case atStart => exact ⟨0, Nat.zero_le _, by go_num, H1.out⟩
      case round =>
        obtain ⟨t, ht, rfl, hmv⟩ := hrel
        have Hmv := Lib.hid hmv
        clear hmv
        obtain ⟨k, hk⟩ : ∃ k, k = a + t := ⟨_, rfl⟩
        rw [← hk]
        have Hk := Lib.hid hk
        by_cases hlt2 : t < V1.length
        · obtain ⟨z, hz⟩ : ∃ z, V1[t]? = some z := ⟨_, List.getElem?_eq_getElem hlt2⟩
          obtain ⟨f1, _⟩ := MvAt.form (P := P) (R := V2 ++ Q) (x := x) hlt2 hz
          have hrow := Hmv.out.row
          rw [f1] at hrow
          have e2 : (P ++ V1.take t) ++ x :: [] ++ z :: (V1.drop (t + 1) ++ (V2 ++ Q)) = (P ++ V1.take t) ++ x :: (z :: (V1.drop (t + 1) ++ (V2 ++ Q))) := by simp
          have hl9 : (P ++ V1.take t).length = k := by have := Ha.out; simp; omega
          obtain ⟨x0, x1, x2, x3, x4, x5, x6, x7⟩ := hrow.cells (k := k) (e := x) (by rw [e2]; exact at_mid hl9)
          obtain ⟨z0, z1, z2, z3, z4, z5, z6, z7⟩ := hrow.cells (k := k + 1) (e := z) (at_mid (by rw [List.length_append, hl9]; rfl))
          have hfree := hrow.free
          have Hsw := Lib.hid (Hmv.out.swap (k := k) hlt2 hz (by have := Ha.out; omega))
          have q0 : (0 : Int) ≤ (k : Int) + 1 := by omega
          have q1 : (k : Int) + 1 < (n : Int) := by omega
          have q2 : IntKind.i64.wrap ((k : Int) + 1) = (k : Int) + 1 := by rw [IntKind.wrap_i64]; omega
          have q3 : (0 : Int) ≤ (k : Int) := by omega
          have q4 : (k : Int) < (n : Int) := by omega
          have q5 : (k : Int) < (i : Int) - 1 := by omega
          have r1 : ((k : Int) + 1).toNat = k + 1 := by omega
          clear hz f1 e2 hl9 hrow hk
          go_upto_region 11 with fail
          go_region_with fail
          all_goals
            have hsw := Hsw.out.ext (Keeps.drew (Keeps.refl _ _))
            obtain ⟨Z, hZ⟩ : ∃ Z, Z = (set8 (set8 wr g (o + k * 8) z) g (o + (k + 1) * 8) x).drew := ⟨_, rfl⟩
            rw [← hZ] at hsw
            unfold set8 at hZ
            rw [← hZ]
            have Hz := Lib.hid hsw
            clear hsw hZ x0 x1 x2 x3 x4 x5 x6 x7 z0 z1 z2 z3 z4 z5 z6 z7 hfree
            go_wp2_with fail
            refine ⟨⟨t + 1, by omega, by have := Hk.out; congr 1; omega, Hz.out⟩, ?_⟩
            simp [intOf]; omega
        · have htl : t = V1.length := by omega
          have q5 : ¬ (k : Int) < (i : Int) - 1 := by omega
          have Hend := Lib.hid (show ∃ M, Srt lessE M ∧ Cls lessE (x :: V) M ∧ Row wr g o S (P ++ M ++ Q) ∧ Keeps (fun k => k ≠ g) w wr from ⟨V1 ++ x :: V2, HM.out.1, by rw [← HeV.out]; exact HM.out.2, by
            have h9 := Hmv.out.row
            rw [htl] at h9
            simpa using h9, Hmv.out.keep⟩)
          clear htl hk
          go_wp2_with fail
          exact ⟨rfl, .tuple #[], by simp [results, Tryz.results137], rfl, Hend.out⟩
end Go.Proofs.YtpkkkhgmkndpdaaGreatDoor
namespace Go.Proofs.YtpkkkhgmkndpdaaGreatDoor
open Go Go.RowKit Go.Proofs
attribute [local go_sem ↓] Go.wp_at_zero Go.wp_at_succ
theorem MvAt.back {g o S : Nat} {P V1 R : List Ev} {x z : Ev} {t k : Nat} {w wr : World} (h : MvAt g o S P V1 R x (t + 1) w wr) (ht : t < V1.length) (hz : V1[t]? = some z) (hk : P.length + t + 1 = k) : MvAt g o S P V1 R x t w (set8 (set8 wr g (o + k * 8) z) g (o + (k - 1) * 8) x) := by
  obtain ⟨f1, f2⟩ := MvAt.form (P := P) (R := R) (x := x) ht hz
  have hr := h.row
  rw [f2] at hr
  have hl : (P ++ V1.take t).length = k - 1 := by simp; omega
  have hr2 := Row.set (hr.set (k := k) (by simp; omega) z) (k := k - 1) (by simp; omega) x
  rw [set_swap' (P := P ++ V1.take t) (M := []) (i := k - 1) (j := k) hl (by simp; omega)] at hr2
  exact ⟨by rw [f1]; exact hr2, (h.keep.trans set8_keeps).trans set8_keeps⟩
set_option maxRecDepth 100000 in
set_option maxHeartbeats 8000000 in
theorem sym_B (g o n c S a m b : Nat) (P V Q : List Ev) (x : Ev) (w : World) (hr : Row w g o S (P ++ V ++ x :: Q)) (ha : P.length = a) (hm : a + V.length = m) (hb : m + 1 = b) (hn : (P ++ V ++ x :: Q).length = n) (hsV : Srt lessE V) (h2 : 2 ≤ V.length) (hmax : n ≤ 1000000) :
    Calls Tryz.prog 137 #[.slice (some ⟨g, o, none⟩) n c, .int .i64 (a : Int), .int .i64 (m : Int), .int .i64 (b : Int), .func (.func 46) #[] #[]] w (SymPost g o S P (V ++ [x]) Q w) := by
  have hn' : b + Q.length = n := by rw [← hn]; simp; omega
  have Hr := Lib.hid hr
  have Ha := Lib.hid ha
  have HsV := Lib.hid hsV
  have Hmono := Lib.hid (show ∀ (s t : Nat) (u v : Ev), s ≤ t → V[s]? = some u → V[t]? = some v → (!lessE x v) = true → (!lessE x u) = true from fun s t u v hst hu hv h9 => by
    have h8 := lessE_swo.ntrans (show lessE x v = false by simpa using h9) (srt_at hsV hst hu hv)
    rw [h8]; rfl)
  have t0 : ((m : Int) - (a : Int) == 1) = false := by rw [beq_eq_false_iff_ne]; omega
  have t1 : ((b : Int) - (m : Int) == 1) = true := by rw [beq_iff_eq]; omega
  have hbn : b ≤ n := by omega
  have Hm := Lib.hid hm
  have ham : a ≤ m := by omega
  clear hr ha hn hsV hn' hm h2
  go_enter Tryz.func137, Tryz.ntmps137
  go_wp2_with fail
  go_loopw [14, 15] (fun iv jv wr => ∃ (i j : Nat), a ≤ i ∧ i ≤ j ∧ j ≤ m ∧ iv = .int .i64 (i : Int) ∧ jv = .int .i64 (j : Int) ∧ Seek V (fun y => !lessE x y) (i - a) (j - a) ∧ Ext w wr) (fun iv jv _ => (intOf jv).toNat - (intOf iv).toNat)
  case atStart => exact ⟨a, m, Nat.le_refl _, ham, Nat.le_refl _, rfl, rfl, by have h9 := Seek.start V (fun y => !lessE x y); rw [Nat.sub_self, show m - a = V.length by have := Hm.out; omega]; exact h9, Keeps.refl _ _⟩
  case round =>
    obtain ⟨i, j, hmi, hij, hjb, rfl, rfl, hsk, hx⟩ := hrel
    have Hsk := Lib.hid hsk
    have Hx := Lib.hid hx
    have hrow := Hr.out.ext hx
    clear hsk hx
    by_cases hlt : i < j
    · have hlt' : (i : Int) < (j : Int) := by omega
      obtain ⟨h, hh⟩ : ∃ h : Nat, h = (i + j) / 2 := ⟨_, rfl⟩
      have eh : ((i : Int) + (j : Int)) / 2 = (h : Int) := by omega
      have hh1 : i ≤ h := by omega
      have hh2 : h < j := by omega
      clear hh
      obtain ⟨y, hy⟩ : ∃ y, V[h - a]? = some y := ⟨_, List.getElem?_eq_getElem (by have := Hm.out; omega)⟩
      have hyr : (P ++ V ++ x :: Q)[h]? = some y := by
        have h9 := Ha.out
        rw [List.append_assoc, List.getElem?_append_right (by omega), h9, List.getElem?_append_left (by have := Hm.out; omega)]
        exact hy
      obtain ⟨x0, x1, x2, x3, x4, x5, x6, x7⟩ := hrow.cells (k := m) (e := x) (at_mid (by have := Ha.out; have := Hm.out; simp; omega))
      obtain ⟨y0, y1, y2, y3, y4, y5, y6, y7⟩ := hrow.cells (k := h) (e := y) hyr
      have hgl := hrow.lt
      have CC := Lib.hid (fun (W : World) => ev_Compare x y W)
      have hcn := cmpE_neg (a := x) (b := y)
      obtain ⟨cz, hcz⟩ : ∃ cz, cz = cmpE x y := ⟨_, rfl⟩
      rw [← hcz] at CC hcn
      have k0 : (0 : Int) ≤ (h : Int) := by omega
      have k1 : (h : Int) < (n : Int) := by omega
      have k2 : (0 : Int) ≤ (m : Int) := by omega
      have k3 : (m : Int) < (n : Int) := by omega
      have Hy := Lib.hid hy
      clear hcz hyr hrow hy
      cases hlz : lessE x y
      · rw [hlz] at hcn
        have hcn' : ¬ cz < 0 := by simpa using hcn
        have Hs2 := Lib.hid (Hsk.out.up Hmono.out (show h - a < j - a by omega) Hy.out (by rw [hlz]; rfl))
        clear hcn
        go_upto_region 17 with fail
        refine wp_region_ext wr (Keeps.refl _ _) (by kernel_rfl) (by kernel_rfl) ?_
        have hcell := fun (y : XW wr) => y.cell
        repeat (go_big_quiet_step (first | (go_at_call 46; with_reducible exact ext_calls (CC.out _))))
        refine wpQuiet_nil ?_
        rintro _ ⟨yw, rfl⟩
        clear hcell x0 x1 x2 x3 x4 x5 x6 x7 y0 y1 y2 y3 y4 y5 y6 y7
        go_wp2_with fail
        go_roundw
        case rel => exact ⟨h + 1, j, by omega, by omega, hjb, by go_num, rfl, by rw [show h + 1 - a = h - a + 1 by omega]; exact Hs2.out, Hx.out.trans yw.h⟩
        case measure => simp [intOf]; omega
      · rw [hlz] at hcn
        have hcn' : cz < 0 := by simpa using hcn
        have Hs2 := Lib.hid (Hsk.out.down Hmono.out (show i - a ≤ h - a by omega) (by omega) Hy.out (by rw [hlz]; rfl))
        clear hcn
        go_upto_region 17 with fail
        refine wp_region_ext wr (Keeps.refl _ _) (by kernel_rfl) (by kernel_rfl) ?_
        have hcell := fun (y : XW wr) => y.cell
        repeat (go_big_quiet_step (first | (go_at_call 46; with_reducible exact ext_calls (CC.out _))))
        refine wpQuiet_nil ?_
        rintro _ ⟨yw, rfl⟩
        clear hcell x0 x1 x2 x3 x4 x5 x6 x7 y0 y1 y2 y3 y4 y5 y6 y7
        go_wp2_with fail
        go_roundw
        case rel => exact ⟨i, h, hmi, hh1, by omega, rfl, rfl, Hs2.out, Hx.out.trans yw.h⟩
        case measure => simp [intOf]; omega
    · obtain rfl : i = j := by omega
      obtain ⟨s1, s2⟩ := Hsk.out.parts
      have hVl : (V.drop (i - a)).length = m - i := by rw [List.length_drop]; have := Hm.out; omega
      have hVl1 : (V.take (i - a)).length = i - a := by rw [List.length_take]; have := Hm.out; omega
      have eV := List.take_append_drop (i - a) V
      have HM := Lib.hid (ins_at lessE_swo (x := x) (u := V.take (i - a)) (v := V.drop (i - a)) (by rw [eV]; exact HsV.out) (fun y hy => by simpa using s2 y hy) (fun z hz => by simpa using s1 z (List.mem_of_getLast? hz)))
      have H1 := Lib.hid (show MvAt g o S (P ++ V.take (i - a)) (V.drop (i - a)) Q x (m - i) w wr from ⟨by
        rw [show (V.drop (i - a)).take (m - i) = V.drop (i - a) from List.take_of_length_le (by omega), show (V.drop (i - a)).drop (m - i) = [] from List.drop_eq_nil_of_le (by omega), List.nil_append, List.append_assoc P, eV]
        exact hrow, Hx.out.keeps _⟩)
      have HeV := Lib.hid eV
      generalize V.take (i - a) = V1 at *
      generalize V.drop (i - a) = V2 at *
      have hti : ¬ (i : Int) < (i : Int) := by omega
      clear s1 s2 eV hrow
      go_wp2_with fail
      go_loopw [17] (fun kv wr' => ∃ (t : Nat), t ≤ V2.length ∧ kv = .int .i64 ((i + t : Nat) : Int) ∧ MvAt g o S (P ++ V1) V2 Q x t w wr') (fun kv _ => (intOf kv).toNat)
      case atStart => exact ⟨m - i, by omega, by congr 1; omega, H1.out⟩
      case round =>
        obtain ⟨t, ht, rfl, hmv⟩ := hrel
        have Hmv := Lib.hid hmv
        clear hmv
        obtain ⟨k, hk⟩ : ∃ k, k = i + t := ⟨_, rfl⟩
        rw [← hk]
        have Hk := Lib.hid hk
        rcases Nat.eq_zero_or_pos t with rfl | hpos
        · have q5 : ¬ (i : Int) < (k : Int) := by omega
          have Hend := Lib.hid (show ∃ M, Srt lessE M ∧ Cls lessE (V ++ [x]) M ∧ Row wr g o S (P ++ M ++ Q) ∧ Keeps (fun k => k ≠ g) w wr from ⟨V1 ++ x :: V2, HM.out.1, by rw [← HeV.out]; exact HM.out.2, by
            have h9 := Hmv.out.row
            simpa using h9, Hmv.out.keep⟩)
          clear hk
          go_wp2_with fail
          exact ⟨rfl, .tuple #[], by simp [results, Tryz.results137], rfl, Hend.out⟩
        · obtain ⟨s, rfl⟩ : ∃ s, t = s + 1 := ⟨t - 1, by omega⟩
          have hs9 : s < V2.length := by omega
          obtain ⟨z, hz⟩ : ∃ z, V2[s]? = some z := ⟨_, List.getElem?_eq_getElem hs9⟩
          obtain ⟨_, f2⟩ := MvAt.form (P := P ++ V1) (R := Q) (x := x) hs9 hz
          have hrow := Hmv.out.row
          rw [f2] at hrow
          have e2 : (P ++ V1 ++ V2.take s) ++ z :: [] ++ x :: (V2.drop (s + 1) ++ Q) = (P ++ V1 ++ V2.take s) ++ z :: (x :: (V2.drop (s + 1) ++ Q)) := by simp
          have hl9 : (P ++ V1 ++ V2.take s).length = k - 1 := by have := Ha.out; simp; omega
          obtain ⟨z0, z1, z2, z3, z4, z5, z6, z7⟩ := hrow.cells (k := k - 1) (e := z) (by rw [e2]; exact at_mid hl9)
          obtain ⟨x0, x1, x2, x3, x4, x5, x6, x7⟩ := hrow.cells (k := k) (e := x) (at_mid (by rw [List.length_append, hl9]; simp; omega))
          have hfree := hrow.free
          have Hsw := Lib.hid (Hmv.out.back (k := k) hs9 hz (by have := Ha.out; simp; omega))
          have q0 : (0 : Int) ≤ (k : Int) - 1 := by omega
          have q1 : (k : Int) - 1 < (n : Int) := by omega
          have q2 : IntKind.i64.wrap ((k : Int) - 1) = (k : Int) - 1 := by rw [IntKind.wrap_i64]; omega
          have q3 : (0 : Int) ≤ (k : Int) := by omega
          have q4 : (k : Int) < (n : Int) := by omega
          have q5 : (i : Int) < (k : Int) := by omega
          have q6 : (0 : Int) < (k : Int) := by omega
          clear hz f2 e2 hl9 hrow hk
          go_upto_region 23 with fail
          go_region_with fail
          all_goals
            have hsw := Hsw.out.ext (Keeps.drew (Keeps.refl _ _))
            obtain ⟨Z, hZ⟩ : ∃ Z, Z = (set8 (set8 wr g (o + k * 8) z) g (o + (k - 1) * 8) x).drew := ⟨_, rfl⟩
            rw [← hZ] at hsw
            unfold set8 at hZ
            rw [← hZ]
            have Hz := Lib.hid hsw
            clear hsw hZ x0 x1 x2 x3 x4 x5 x6 x7 z0 z1 z2 z3 z4 z5 z6 z7 hfree
            go_wp2_with fail
            refine ⟨⟨s, by omega, by have := Hk.out; congr 1; omega, Hz.out⟩, ?_⟩
            simp [intOf]; omega
end Go.Proofs.YtpkkkhgmkndpdaaGreatDoor
namespace Go.Proofs.YtpkkkhgmkndpdaaGreatDoor
open Go Go.RowKit Go.Proofs
attribute [local go_sem ↓] Go.wp_at_zero Go.wp_at_succ
/-- Where both parts are parted: U is D's part from a to m, V that from m to b; q is one less than the sum of both places. -/
structure Part (U V : List Ev) (a m b q lo hi s r : Nat) : Prop where
  lo_ : ∀ (t : Nat) (x y : Ev), lo ≤ t → t < s → U[t - a]? = some x → V[q - t - m]? = some y → lessE y x = false
  hi_ : ∀ (t : Nat) (x y : Ev), r ≤ t → t < hi → U[t - a]? = some x → V[q - t - m]? = some y → lessE y x = true
  l1 : lo ≤ s
  l2 : s ≤ r
  l3 : r ≤ hi
/-- The bounds of the search. -/
structure Bnds (U V : List Ev) (a m b mid lo hi : Nat) : Prop where
  hm : a + U.length = m
  hb : m + V.length = b
  md : mid = (a + b) / 2
  two : (mid < m ∧ lo = mid + m - b ∧ hi = mid) ∨ (m ≤ mid ∧ lo = a ∧ hi = m)
  u1 : 0 < U.length
  v1 : 0 < V.length
theorem Bnds.in_ {U V : List Ev} {a m b mid lo hi : Nat} (h : Bnds U V a m b mid lo hi) {t : Nat} (h1 : lo ≤ t) (h2 : t < hi) : a ≤ t ∧ t < m ∧ m ≤ mid + m - 1 - t ∧ mid + m - 1 - t < b ∧ t ≤ mid + m - 1 := by
  have := h.hm
  have := h.hb
  have := h.md
  have := h.u1
  have := h.v1
  rcases h.two with ⟨g1, g2, g3⟩ | ⟨g1, g2, g3⟩ <;> omega
theorem Bnds.le {U V : List Ev} {a m b mid lo hi : Nat} (h : Bnds U V a m b mid lo hi) : lo ≤ hi ∧ a ≤ lo ∧ hi ≤ m ∧ hi ≤ mid ∧ mid < b ∧ a ≤ mid := by
  have := h.hm
  have := h.hb
  have := h.md
  have := h.u1
  have := h.v1
  rcases h.two with ⟨g1, g2, g3⟩ | ⟨g1, g2, g3⟩ <;> omega
theorem Part.start {U V : List Ev} {a m b q lo hi : Nat} (h : lo ≤ hi) : Part U V a m b q lo hi lo hi := ⟨fun _ _ _ _ _ => by omega, fun _ _ _ _ _ => by omega, Nat.le_refl _, h, Nat.le_refl _⟩
theorem Part.up {U V : List Ev} {a m b mid lo hi s r c : Nat} (h : Part U V a m b (mid + m - 1) lo hi s r) (hb : Bnds U V a m b mid lo hi) (hU : Srt lessE U) (hV : Srt lessE V) (hc1 : s ≤ c) (hc2 : c < r) {x y : Ev} (hx : U[c - a]? = some x) (hy : V[mid + m - 1 - c - m]? = some y) (hl : lessE y x = false) : Part U V a m b (mid + m - 1) lo hi (c + 1) r := by
  have hl1 := h.l1
  have hl3 := h.l3
  refine ⟨fun t u v h1 h2 hu hv => ?_, h.hi_, by omega, by omega, by omega⟩
  obtain ⟨b1, b2, b3, b4, b5⟩ := hb.in_ (t := c) (by omega) (by omega)
  have hux : lessE x u = false := srt_at hU (s := t - a) (t := c - a) (by omega) hu hx
  have hvy : lessE v y = false := srt_at hV (s := mid + m - 1 - c - m) (t := mid + m - 1 - t - m) (by omega) hy hv
  exact lessE_swo.ntrans hvy (lessE_swo.ntrans hl hux)
theorem Part.down {U V : List Ev} {a m b mid lo hi s r c : Nat} (h : Part U V a m b (mid + m - 1) lo hi s r) (hb : Bnds U V a m b mid lo hi) (hU : Srt lessE U) (hV : Srt lessE V) (hc1 : s ≤ c) (hc2 : c < r) {x y : Ev} (hx : U[c - a]? = some x) (hy : V[mid + m - 1 - c - m]? = some y) (hl : lessE y x = true) : Part U V a m b (mid + m - 1) lo hi s c := by
  have hl1 := h.l1
  have hl3 := h.l3
  refine ⟨h.lo_, fun t u v h1 h2 hu hv => ?_, by omega, by omega, by omega⟩
  obtain ⟨b1, b2, b3, b4, b5⟩ := hb.in_ (t := t) (by omega) (by omega)
  have hux : lessE u x = false := srt_at hU (s := c - a) (t := t - a) (by omega) hx hu
  have hvy : lessE y v = false := srt_at hV (s := mid + m - 1 - t - m) (t := mid + m - 1 - c - m) (by omega) hv hy
  exact lessE_swo.lt_le (lessE_swo.le_lt hvy hl) hux
theorem get_take {l : List Ev} {k : Nat} {x : Ev} (h : x ∈ l.take k) : ∃ t, t < k ∧ l[t]? = some x := by
  obtain ⟨t, ht, e⟩ := List.mem_iff_getElem.1 h
  rw [List.length_take] at ht
  exact ⟨t, by omega, by rw [← e, List.getElem_take, List.getElem?_eq_getElem]⟩
theorem get_drop {l : List Ev} {k : Nat} {x : Ev} (h : x ∈ l.drop k) : ∃ t, k ≤ t ∧ l[t]? = some x := by
  obtain ⟨t, ht, e⟩ := List.mem_iff_getElem.1 h
  rw [List.length_drop] at ht
  exact ⟨k + t, by omega, by rw [← e, List.getElem_drop, List.getElem?_eq_getElem]⟩
/-- What is known when the place is found. -/
theorem Part.done {U V : List Ev} {a m b mid lo hi s : Nat} (h : Part U V a m b (mid + m - 1) lo hi s s) (hb : Bnds U V a m b mid lo hi) (hU : Srt lessE U) (hV : Srt lessE V) :
    (∀ x ∈ U.drop (s - a), ∀ y ∈ V.take (mid - s), lessE y x = true) ∧ ∀ x ∈ U.take (s - a), ∀ y ∈ V.drop (mid - s), lessE y x = false := by
  have hl1 := h.l1
  have hl3 := h.l3
  obtain ⟨e1, e2, e3, e4, e5, e6⟩ := hb.le
  have hm := hb.hm
  have hbb := hb.hb
  constructor
  · intro x hx y hy
    obtain ⟨t, ht, hxt⟩ := get_drop hx
    obtain ⟨v, hv, hyv⟩ := get_take hy
    have htl := (List.getElem?_eq_some_iff.1 hxt).1
    have hvl := (List.getElem?_eq_some_iff.1 hyv).1
    -- s < hi: else one part is empty
    have hsh : s < hi := by
      rcases hb.two with ⟨g1, g2, g3⟩ | ⟨g1, g2, g3⟩ <;> omega
    obtain ⟨b1, b2, b3, b4, b5⟩ := hb.in_ (t := s) hl1 hsh
    obtain ⟨x', hx'⟩ : ∃ x', U[s - a]? = some x' := ⟨_, List.getElem?_eq_getElem (by omega)⟩
    obtain ⟨y', hy'⟩ : ∃ y', V[mid + m - 1 - s - m]? = some y' := ⟨_, List.getElem?_eq_getElem (by omega)⟩
    have h0 := h.hi_ s x' y' (Nat.le_refl _) hsh hx' hy'
    have h1 : lessE x x' = false := srt_at hU ht hx' hxt
    have h2 : lessE y' y = false := srt_at hV (s := v) (t := mid + m - 1 - s - m) (by omega) hyv hy'
    exact lessE_swo.lt_le (lessE_swo.le_lt h2 h0) h1
  · intro x hx y hy
    obtain ⟨t, ht, hxt⟩ := get_take hx
    obtain ⟨v, hv, hyv⟩ := get_drop hy
    have htl := (List.getElem?_eq_some_iff.1 hxt).1
    have hvl := (List.getElem?_eq_some_iff.1 hyv).1
    have hsl : lo < s := by
      rcases hb.two with ⟨g1, g2, g3⟩ | ⟨g1, g2, g3⟩ <;> omega
    obtain ⟨b1, b2, b3, b4, b5⟩ := hb.in_ (t := s - 1) (by omega) (by omega)
    obtain ⟨x', hx'⟩ : ∃ x', U[s - 1 - a]? = some x' := ⟨_, List.getElem?_eq_getElem (by omega)⟩
    obtain ⟨y', hy'⟩ : ∃ y', V[mid + m - 1 - (s - 1) - m]? = some y' := ⟨_, List.getElem?_eq_getElem (by omega)⟩
    have h0 := h.lo_ (s - 1) x' y' (by omega) (by omega) hx' hy'
    have h1 : lessE x' x = false := srt_at hU (s := t) (t := s - 1 - a) (by omega) hxt hx'
    have h2 : lessE y y' = false := srt_at hV (s := mid + m - 1 - (s - 1) - m) (t := v) (by omega) hy' hyv
    exact lessE_swo.ntrans h2 (lessE_swo.ntrans h0 h1)
end Go.Proofs.YtpkkkhgmkndpdaaGreatDoor
namespace Go.Proofs.YtpkkkhgmkndpdaaGreatDoor
open Go Go.RowKit Go.Proofs
attribute [local go_sem ↓] Go.wp_at_zero Go.wp_at_succ
def SymOk (N : Nat) : Prop := ∀ (g o n c S a m b : Nat) (P U V Q : List Ev) (w : World), Row w g o S (P ++ U ++ V ++ Q) → P.length = a → a + U.length = m → m + V.length = b → (P ++ U ++ V ++ Q).length = n → Srt lessE U → Srt lessE V → 0 < U.length → 0 < V.length → n ≤ 1000000 → U.length + V.length ≤ N →
  Calls Tryz.prog 137 #[.slice (some ⟨g, o, none⟩) n c, .int .i64 (a : Int), .int .i64 (m : Int), .int .i64 (b : Int), .func (.func 46) #[] #[]] w (SymPost g o S P (U ++ V) Q w)
theorem row_lo {P U V Q : List Ev} {a t : Nat} {x : Ev} (ha : P.length = a) (h1 : a ≤ t) (hx : U[t - a]? = some x) : (P ++ U ++ V ++ Q)[t]? = some x := by
  have hl := (List.getElem?_eq_some_iff.1 hx).1
  rw [List.append_assoc, List.append_assoc, List.getElem?_append_right (by omega), ha, List.getElem?_append_left hl]
  exact hx
theorem row_hi {P U V Q : List Ev} {m t : Nat} {x : Ev} (hm : (P ++ U).length = m) (h1 : m ≤ t) (hx : V[t - m]? = some x) : (P ++ U ++ V ++ Q)[t]? = some x := by
  have hl := (List.getElem?_eq_some_iff.1 hx).1
  rw [List.append_assoc, List.getElem?_append_right (by omega), hm, List.getElem?_append_left hl]
  exact hx
end Go.Proofs.YtpkkkhgmkndpdaaGreatDoor
