/-
  What is proved here: the library's rotate at a row of events: two parts beside each other change places. Conditions: at most a million events.
-/
import Derived.Test.YtmhkgfoimkonoaaDoorSoS2
namespace Go.Proofs.YtmhkgfoimkonoaaDoor
open Go Go.RowKit Go.Proofs
attribute [local go_sem ↓] Go.wp_at_zero Go.wp_at_succ
structure RoAt (g o S m i j : Nat) (T : List Ev) (P1 U V Q1 : List Ev) (w wr : World) : Prop where
  row : Row wr g o S (P1 ++ U ++ V ++ Q1)
  keep : Keeps (fun k => k ≠ g) w wr
  aim : P1 ++ V ++ U ++ Q1 = T
  hi : U.length = i
  hj : V.length = j
  hm : P1.length + i = m
set_option maxRecDepth 100000 in
set_option maxHeartbeats 4000000 in
theorem rotate (g o n c S a m b : Nat) (P U V Q : List Ev) (w : World) (hr : Row w g o S (P ++ U ++ V ++ Q)) (ha : P.length = a) (hm : a + U.length = m) (hb : m + V.length = b) (hn : (P ++ U ++ V ++ Q).length = n) (hU : 0 < U.length) (hV : 0 < V.length) (hmax : n ≤ 1000000) :
    Calls Tryd.prog 93 #[.slice (some ⟨g, o, none⟩) n c, .int .i64 (a : Int), .int .i64 (m : Int), .int .i64 (b : Int), .func (.func 33) #[] #[]] w fun e w' => e = .returned (.tuple #[]) ∧ Row w' g o S (P ++ V ++ U ++ Q) ∧ Keeps (fun k => k ≠ g) w w' := by
  have hn' : b + Q.length = n := by rw [← hn]; simp; omega
  obtain ⟨T, hT⟩ : ∃ T, T = P ++ V ++ U ++ Q := ⟨_, rfl⟩
  have hTl : T.length = n := by rw [hT, ← hn]; simp; omega
  have H0 := Lib.hid (show RoAt g o S m (m - a) (b - m) T P U V Q w w from ⟨hr, Keeps.refl _ _, hT.symm, by omega, by omega, by omega⟩)
  rw [← hT]
  have HTl := Lib.hid hTl
  have hma : a < m := by omega
  have hmb : m < b := by omega
  have hbn : b ≤ n := by omega
  clear hr hn hT hTl ha hm hb hn' hU hV
  go_enter Tryd.func93, Tryd.ntmps93
  go_wp2_with fail
  go_loopw [10, 11] (fun iv jv wr => ∃ (i j : Nat) (P1 U1 V1 Q1 : List Ev), 0 < i ∧ 0 < j ∧ i ≤ n ∧ j ≤ n ∧ iv = .int .i64 (i : Int) ∧ jv = .int .i64 (j : Int) ∧ RoAt g o S m i j T P1 U1 V1 Q1 w wr) (fun iv jv _ => (intOf iv).toNat + (intOf jv).toNat)
  case atStart => exact ⟨m - a, b - m, P, U, V, Q, by omega, by omega, by omega, by omega, by congr 1; omega, by congr 1; omega, H0.out⟩
  case round =>
    obtain ⟨i, j, P1, U1, V1, Q1, hi0, hj0, hin, hjn, rfl, rfl, hat⟩ := hrel
    have hlen : P1.length + i + j + Q1.length = n := by
      have h1 := HTl.out
      rw [← hat.aim] at h1
      simp at h1
      have := hat.hi
      have := hat.hj
      omega
    have him := hat.hm
    have Hat := Lib.hid hat
    clear hat
    by_cases hij : i = j
    · subst hij
      have C := swap_range g o n c S P1.length m i P1 U1 [] V1 Q1 wr (by simpa using Hat.out.row) Hat.out.hi Hat.out.hj rfl (by simp; omega) (by have := Hat.out.hi; have := Hat.out.hj; simp; omega) hmax
      rw [show ((P1.length : Nat) : Int) = (m : Int) - (i : Int) by omega] at C
      have C := Lib.hid C
      have t1 : ((i : Int) != (i : Int)) = false := by simp
      go_wp2_with fail
      refine C.out.mono ?_
      rintro _ w2 ⟨rfl, hr2, hk2⟩
      have Hend := Lib.hid (show Row w2 g o S T ∧ Keeps (fun k => k ≠ g) w w2 from ⟨by rw [← Hat.out.aim]; simpa using hr2, Hat.out.keep.trans hk2⟩)
      clear hr2 hk2
      go_wp2_with fail
      exact ⟨rfl, .tuple #[], by simp [results, Tryd.results93], rfl, Hend.out⟩
    · have t1 : ((i : Int) != (j : Int)) = true := by simp; omega
      by_cases hlt : j < i
      · have hlt' : (j : Int) < (i : Int) := by omega
        have eU : U1 = U1.take j ++ U1.drop j := (List.take_append_drop j U1).symm
        have hUl := Hat.out.hi
        have hVl := Hat.out.hj
        have C := swap_range g o n c S P1.length m j P1 (U1.take j) (U1.drop j) V1 Q1 wr (by have h9 := Hat.out.row; rw [eU] at h9; simpa using h9) (by rw [List.length_take]; omega) hVl rfl (by rw [List.length_drop]; omega) (by simp; omega) hmax
        rw [show ((P1.length : Nat) : Int) = (m : Int) - (i : Int) by omega] at C
        have C := Lib.hid C
        clear eU
        go_wp2_with fail
        refine C.out.mono ?_
        rintro _ w2 ⟨rfl, hr2, hk2⟩
        have Hn := Lib.hid (show RoAt g o S m (i - j) j T (P1 ++ V1) (U1.drop j) (U1.take j) Q1 w w2 from ⟨hr2, Hat.out.keep.trans hk2, by rw [← Hat.out.aim]; simp, by rw [List.length_drop]; omega, by rw [List.length_take]; omega, by simp; omega⟩)
        clear hr2 hk2
        go_wp2_with fail
        go_roundw
        case rel => exact ⟨i - j, j, _, _, _, _, by omega, hj0, by omega, hjn, by congr 1; omega, rfl, Hn.out⟩
        case measure => simp [intOf]; omega
      · have hlt' : ¬ (j : Int) < (i : Int) := by omega
        have eV : V1 = V1.take (j - i) ++ V1.drop (j - i) := (List.take_append_drop (j - i) V1).symm
        have hUl := Hat.out.hi
        have hVl := Hat.out.hj
        have C := swap_range g o n c S P1.length (m + j - i) i P1 U1 (V1.take (j - i)) (V1.drop (j - i)) Q1 wr (by have h9 := Hat.out.row; rw [eV] at h9; simpa using h9) hUl (by rw [List.length_drop]; omega) rfl (by rw [List.length_take]; omega) (by simp; omega) hmax
        rw [show ((P1.length : Nat) : Int) = (m : Int) - (i : Int) by omega, show ((m + j - i : Nat) : Int) = (m : Int) + (j : Int) - (i : Int) by omega] at C
        have C := Lib.hid C
        clear eV
        go_wp2_with fail
        refine C.out.mono ?_
        rintro _ w2 ⟨rfl, hr2, hk2⟩
        have Hn := Lib.hid (show RoAt g o S m i (j - i) T P1 (V1.drop (j - i)) (V1.take (j - i)) (U1 ++ Q1) w w2 from ⟨by simpa using hr2, Hat.out.keep.trans hk2, by rw [← Hat.out.aim]; simp, by rw [List.length_drop]; omega, by rw [List.length_take]; omega, him⟩)
        clear hr2 hk2
        go_wp2_with fail
        go_roundw
        case rel => exact ⟨i, j - i, _, _, _, _, hi0, by omega, hin, by omega, rfl, by congr 1; omega, Hn.out⟩
        case measure => simp [intOf]; omega
end Go.Proofs.YtmhkgfoimkonoaaDoor
