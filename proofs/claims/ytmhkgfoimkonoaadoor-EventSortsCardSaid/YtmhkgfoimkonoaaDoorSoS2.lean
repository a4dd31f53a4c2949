/-
  What is proved here: the library's swapRange and rotate at a row of events: parts change places. Conditions: at most a million events.
-/
import Derived.Test.YtmhkgfoimkonoaaDoorSoS1
namespace Go.Proofs.YtmhkgfoimkonoaaDoor
open Go Go.RowKit Go.Proofs
attribute [local go_sem ↓] Go.wp_at_zero Go.wp_at_succ
structure SwAt (g o S : Nat) (P X M Y Q : List Ev) (k : Nat) (w wr : World) : Prop where
  row : Row wr g o S (P ++ (Y.take k ++ X.drop k) ++ M ++ (X.take k ++ Y.drop k) ++ Q)
  keep : Keeps (fun k => k ≠ g) w wr
theorem SwAt.forms {P X M Y Q : List Ev} {k : Nat} (hx : k < X.length) (hy : k < Y.length) :
    P ++ (Y.take k ++ X.drop k) ++ M ++ (X.take k ++ Y.drop k) ++ Q = (P ++ Y.take k) ++ X[k] :: (X.drop (k + 1) ++ M ++ X.take k) ++ Y[k] :: (Y.drop (k + 1) ++ Q) ∧
    P ++ (Y.take (k + 1) ++ X.drop (k + 1)) ++ M ++ (X.take (k + 1) ++ Y.drop (k + 1)) ++ Q = (P ++ Y.take k) ++ Y[k] :: (X.drop (k + 1) ++ M ++ X.take k) ++ X[k] :: (Y.drop (k + 1) ++ Q) := by
  constructor
  · rw [List.drop_eq_getElem_cons hx, List.drop_eq_getElem_cons hy]; simp only [List.append_assoc, List.cons_append]
  · rw [List.take_succ_eq_append_getElem hx, List.take_succ_eq_append_getElem hy]; simp only [List.append_assoc, List.cons_append, List.nil_append]
theorem SwAt.swap {g o S : Nat} {P X M Y Q : List Ev} {k : Nat} {w wr : World} (h : SwAt g o S P X M Y Q k w wr) {m : Nat} (hX : X.length = m) (hY : Y.length = m) (hk : k < m) {x y : Ev} (hx : X[k]? = some x) (hy : Y[k]? = some y) {a b : Nat} (ha : P.length = a) (hb : a + m + M.length = b) :
    SwAt g o S P X M Y Q (k + 1) w (set8 (set8 wr g (o + (a + k) * 8) y) g (o + (b + k) * 8) x) := by
  have hkx : k < X.length := by omega
  have hky : k < Y.length := by omega
  obtain ⟨f1, f2⟩ := SwAt.forms (P := P) (M := M) (Q := Q) hkx hky
  rw [List.getElem?_eq_getElem hkx] at hx
  rw [List.getElem?_eq_getElem hky] at hy
  have ex : X[k] = x := Option.some.inj hx
  have ey : Y[k] = y := Option.some.inj hy
  rw [ex, ey] at f1 f2
  have hr := h.row
  rw [f1] at hr
  have hr2 := Row.set (hr.set (k := a + k) (by simp; omega) y) (k := b + k) (by simp; omega) x
  rw [set_swap (P := P ++ Y.take k) (M := X.drop (k + 1) ++ M ++ X.take k) (i := a + k) (j := b + k) (by simp; omega) (by simp; omega)] at hr2
  refine ⟨by rw [f2]; exact hr2, (h.keep.trans set8_keeps).trans set8_keeps⟩
theorem SwAt.ext {g o S : Nat} {P X M Y Q : List Ev} {k : Nat} {w wr wr' : World} (h : SwAt g o S P X M Y Q k w wr) (hx : Ext wr wr') : SwAt g o S P X M Y Q k w wr' := ⟨h.row.ext hx, h.keep.trans (hx.keeps _)⟩
set_option maxRecDepth 100000 in
set_option maxHeartbeats 4000000 in
theorem swap_range (g o n c S a b m : Nat) (P X M Y Q : List Ev) (w : World) (hr : Row w g o S (P ++ X ++ M ++ Y ++ Q)) (hX : X.length = m) (hY : Y.length = m) (ha : P.length = a) (hb : a + m + M.length = b) (hn : (P ++ X ++ M ++ Y ++ Q).length = n) (hmax : n ≤ 1000000) :
    Calls Tryd.prog 107 #[.slice (some ⟨g, o, none⟩) n c, .int .i64 (a : Int), .int .i64 (b : Int), .int .i64 (m : Int), .func (.func 33) #[] #[]] w fun e w' => e = .returned (.tuple #[]) ∧ Row w' g o S (P ++ Y ++ M ++ X ++ Q) ∧ Keeps (fun k => k ≠ g) w w' := by
  have hn' : b + m + Q.length = n := by rw [← hn]; simp; omega
  have H0 := Lib.hid (show SwAt g o S P X M Y Q 0 w w from ⟨by simpa using hr, Keeps.refl _ _⟩)
  have Hs := Lib.hid (And.intro hX (And.intro hY (And.intro ha hb)))
  have hab : a + m ≤ b := by omega
  clear hr hn ha hb
  go_enter Tryd.func107, Tryd.ntmps107
  go_wp2_with fail
  go_loopw [10] (fun i wr => ∃ k : Nat, k ≤ m ∧ i = .int .i64 (k : Int) ∧ SwAt g o S P X M Y Q k w wr) (fun i _ => m - (intOf i).toNat)
  case atStart => exact ⟨0, Nat.zero_le _, rfl, H0.out⟩
  case round =>
    obtain ⟨k, hk, rfl, hat⟩ := hrel
    have Hat := Lib.hid hat
    clear hat
    by_cases hlt : k < m
    · obtain ⟨x, hx⟩ : ∃ x, X[k]? = some x := ⟨_, List.getElem?_eq_getElem (by omega)⟩
      obtain ⟨y, hy⟩ : ∃ y, Y[k]? = some y := ⟨_, List.getElem?_eq_getElem (by omega)⟩
      obtain ⟨f1, _⟩ := SwAt.forms (P := P) (M := M) (Q := Q) (show k < X.length by omega) (show k < Y.length by omega)
      have ex : X[k]'(by omega) = x := by rw [List.getElem?_eq_getElem (by omega)] at hx; exact Option.some.inj hx
      have ey : Y[k]'(by omega) = y := by rw [List.getElem?_eq_getElem (by omega)] at hy; exact Option.some.inj hy
      rw [ex, ey] at f1
      have hrow := Hat.out.row
      rw [f1] at hrow
      have e2 : (P ++ Y.take k) ++ x :: (X.drop (k + 1) ++ M ++ X.take k) ++ y :: (Y.drop (k + 1) ++ Q) = (P ++ Y.take k) ++ x :: ((X.drop (k + 1) ++ M ++ X.take k) ++ y :: (Y.drop (k + 1) ++ Q)) := by simp
      obtain ⟨x0, x1, x2, x3, x4, x5, x6, x7⟩ := hrow.cells (k := a + k) (e := x) (by rw [e2]; exact at_mid (by have := Hs.out.2.2.1; simp; omega))
      obtain ⟨y0, y1, y2, y3, y4, y5, y6, y7⟩ := hrow.cells (k := b + k) (e := y) (at_mid (by have := Hs.out.2.2; simp; omega))
      have hfree := hrow.free
      have Hsw := Lib.hid (Hat.out.swap Hs.out.1 Hs.out.2.1 hlt hx hy Hs.out.2.2.1 Hs.out.2.2.2)
      have q0 : (0 : Int) ≤ (a : Int) + (k : Int) := by omega
      have q1 : (a : Int) + (k : Int) < (n : Int) := by omega
      have q2 : IntKind.i64.wrap ((a : Int) + (k : Int)) = (a : Int) + (k : Int) := by rw [IntKind.wrap_i64]; omega
      have p0 : (0 : Int) ≤ (b : Int) + (k : Int) := by omega
      have p1 : (b : Int) + (k : Int) < (n : Int) := by omega
      have p2 : IntKind.i64.wrap ((b : Int) + (k : Int)) = (b : Int) + (k : Int) := by rw [IntKind.wrap_i64]; omega
      have hkm : (k : Int) < (m : Int) := by omega
      have r1 : ((a : Int) + (k : Int)).toNat = a + k := by omega
      have r2 : ((b : Int) + (k : Int)).toNat = b + k := by omega
      have hne : a + k ≠ b + k := by omega
      clear hx hy f1 ex ey hrow e2
      go_upto_region 3 with fail
      go_region_with fail
      all_goals
        have hsw := Hsw.out.ext (Keeps.drew (Keeps.refl _ _))
        obtain ⟨Z, hZ⟩ : ∃ Z, Z = (set8 (set8 wr g (o + (a + k) * 8) y) g (o + (b + k) * 8) x).drew := ⟨_, rfl⟩
        rw [← hZ] at hsw
        unfold set8 at hZ
        rw [← hZ]
        have Hz := Lib.hid hsw
        clear hsw hZ x0 x1 x2 x3 x4 x5 x6 x7 y0 y1 y2 y3 y4 y5 y6 y7 hfree
        go_wp2_with fail
        refine ⟨⟨k + 1, by omega, by go_num, Hz.out⟩, ?_⟩
        simp [intOf]; omega
    · obtain rfl : k = m := by omega
      have hrow := Hat.out.row
      have h1 : Y.take k = Y := List.take_of_length_le (by omega)
      have h2 : X.drop k = [] := List.drop_eq_nil_of_le (by omega)
      have h3 : X.take k = X := List.take_of_length_le (by omega)
      have h4 : Y.drop k = [] := List.drop_eq_nil_of_le (by omega)
      rw [h1, h2, h3, h4] at hrow
      have Hend := Lib.hid (show Row wr g o S (P ++ Y ++ M ++ X ++ Q) ∧ Keeps (fun k => k ≠ g) w wr from ⟨by simpa using hrow, Hat.out.keep⟩)
      clear hrow h1 h2 h3 h4
      go_wp2_with fail
      exact ⟨rfl, .tuple #[], by simp [results, Tryd.results107], rfl, Hend.out⟩
end Go.Proofs.YtmhkgfoimkonoaaDoor
