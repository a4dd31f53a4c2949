/-
  What is proved here: the library's symMerge at a row of events, where the first part is one event. Conditions: at most a million events.
-/
import Derived.Test.YtmhkgfoimkonoaaDoorSoS3
namespace Go.Proofs.YtmhkgfoimkonoaaDoor
open Go Go.RowKit Go.Proofs
attribute [local go_sem ↓] Go.wp_at_zero Go.wp_at_succ
def SymPost (g o S : Nat) (P Y Q : List Ev) (w : World) (e : Ending) (w' : World) : Prop :=
  e = .returned (.tuple #[]) ∧ ∃ M, Srt lessE M ∧ Cls lessE Y M ∧ Row w' g o S (P ++ M ++ Q) ∧ Keeps (fun k => k ≠ g) w w'
/-- A place is sought: those ahead have it, those from j on have it not. -/
structure Seek (V : List Ev) (p : Ev → Bool) (i j : Nat) : Prop where
  lo : ∀ t y, t < i → V[t]? = some y → p y = true
  hi : ∀ t y, j ≤ t → V[t]? = some y → p y = false
  le : i ≤ j
  top : j ≤ V.length
theorem Seek.start (V : List Ev) (p : Ev → Bool) : Seek V p 0 V.length := ⟨fun _ _ h _ => by omega, fun t y h hy => by have := (List.getElem?_eq_some_iff.1 hy).1; omega, Nat.zero_le _, Nat.le_refl _⟩
theorem Seek.up {V : List Ev} {p : Ev → Bool} {i j h : Nat} (hs : Seek V p i j) (hm : ∀ (s t : Nat) (x y : Ev), s ≤ t → V[s]? = some x → V[t]? = some y → p y = true → p x = true) (hh : h < j) {y : Ev} (hy : V[h]? = some y) (hp : p y = true) : Seek V p (h + 1) j :=
  ⟨fun t x ht hx => hm t h x y (by omega) hx hy hp, hs.hi, by omega, hs.top⟩
theorem Seek.down {V : List Ev} {p : Ev → Bool} {i j h : Nat} (hs : Seek V p i j) (hm : ∀ (s t : Nat) (x y : Ev), s ≤ t → V[s]? = some x → V[t]? = some y → p y = true → p x = true) (hi : i ≤ h) (hj : h < j) {y : Ev} (hy : V[h]? = some y) (hp : p y = false) : Seek V p i h :=
  ⟨hs.lo, fun t x ht hx => (by
    cases e : p x with
    | false => rfl
    | true => have := hm h t y x ht hy hx e; rw [hp] at this; cases this), hi, by have := hs.top; omega⟩
theorem Seek.parts {V : List Ev} {p : Ev → Bool} {i : Nat} (hs : Seek V p i i) : (∀ y ∈ V.take i, p y = true) ∧ ∀ y ∈ V.drop i, p y = false := by
  constructor
  · intro y hy
    obtain ⟨t, ht, e⟩ := List.mem_iff_getElem.1 hy
    rw [List.length_take] at ht
    exact hs.lo t y (by omega) (by rw [← e, List.getElem_take, List.getElem?_eq_getElem])
  · intro y hy
    obtain ⟨t, ht, e⟩ := List.mem_iff_getElem.1 hy
    rw [List.length_drop] at ht
    exact hs.hi (i + t) y (by omega) (by rw [← e, List.getElem_drop, List.getElem?_eq_getElem])
theorem srt_at {l : List Ev} (h : Srt lessE l) {s t : Nat} {x y : Ev} (hst : s ≤ t) (hx : l[s]? = some x) (hy : l[t]? = some y) : lessE y x = false := by
  obtain ⟨hs, ex⟩ := List.getElem?_eq_some_iff.1 hx
  obtain ⟨ht, ey⟩ := List.getElem?_eq_some_iff.1 hy
  rcases Nat.lt_or_ge s t with h1 | h1
  · have := List.pairwise_iff_getElem.1 h s t hs ht h1
    rw [ex, ey] at this
    exact this
  · have : s = t := by omega
    subst this
    rw [hx] at hy
    have : x = y := Option.some.inj hy
    subst this
    exact lessE_swo.irr x
/-- An event on its way through a part, step by step. -/
structure MvAt (g o S : Nat) (P V1 R : List Ev) (x : Ev) (t : Nat) (w wr : World) : Prop where
  row : Row wr g o S (P ++ V1.take t ++ x :: (V1.drop t ++ R))
  keep : Keeps (fun k => k ≠ g) w wr
theorem MvAt.form {P V1 R : List Ev} {x : Ev} {t : Nat} (h : t < V1.length) {z : Ev} (hz : V1[t]? = some z) :
    P ++ V1.take t ++ x :: (V1.drop t ++ R) = (P ++ V1.take t) ++ x :: [] ++ z :: (V1.drop (t + 1) ++ R) ∧ P ++ V1.take (t + 1) ++ x :: (V1.drop (t + 1) ++ R) = (P ++ V1.take t) ++ z :: [] ++ x :: (V1.drop (t + 1) ++ R) := by
  have e : V1[t] = z := by rw [List.getElem?_eq_getElem h] at hz; exact Option.some.inj hz
  constructor
  · rw [List.drop_eq_getElem_cons h, e]; simp only [List.append_assoc, List.cons_append, List.nil_append]
  · rw [List.take_succ_eq_append_getElem h, e]; simp only [List.append_assoc, List.cons_append, List.nil_append]
theorem MvAt.swap {g o S : Nat} {P V1 R : List Ev} {x z : Ev} {t k : Nat} {w wr : World} (h : MvAt g o S P V1 R x t w wr) (ht : t < V1.length) (hz : V1[t]? = some z) (hk : P.length + t = k) : MvAt g o S P V1 R x (t + 1) w (set8 (set8 wr g (o + k * 8) z) g (o + (k + 1) * 8) x) := by
  obtain ⟨f1, f2⟩ := MvAt.form (P := P) (R := R) (x := x) ht hz
  have hr := h.row
  rw [f1] at hr
  have hl : (P ++ V1.take t).length = k := by simp; omega
  have hr2 := Row.set (hr.set (k := k) (by simp; omega) z) (k := k + 1) (by simp; omega) x
  rw [set_swap (P := P ++ V1.take t) (M := []) (i := k) (j := k + 1) hl (by simp)] at hr2
  exact ⟨by rw [f2]; exact hr2, (h.keep.trans set8_keeps).trans set8_keeps⟩
theorem MvAt.ext {g o S : Nat} {P V1 R : List Ev} {x : Ev} {t : Nat} {w wr wr' : World} (h : MvAt g o S P V1 R x t w wr) (hx : Ext wr wr') : MvAt g o S P V1 R x t w wr' := ⟨h.row.ext hx, h.keep.trans (hx.keeps _)⟩
theorem half (i j : Nat) : ((i : Int) + (j : Int)) / 2 = (((i + j) / 2 : Nat) : Int) := by omega
set_option maxRecDepth 100000 in
set_option maxHeartbeats 8000000 in
theorem sym_A (g o n c S a m b : Nat) (P V Q : List Ev) (x : Ev) (w : World) (hr : Row w g o S (P ++ x :: V ++ Q)) (ha : P.length = a) (hm : a + 1 = m) (hb : m + V.length = b) (hn : (P ++ x :: V ++ Q).length = n) (hsV : Srt lessE V) (hmax : n ≤ 1000000) :
    Calls Tryd.prog 81 #[.slice (some ⟨g, o, none⟩) n c, .int .i64 (a : Int), .int .i64 (m : Int), .int .i64 (b : Int), .func (.func 33) #[] #[]] w (SymPost g o S P (x :: V) Q w) := by
  have hn' : b + Q.length = n := by rw [← hn]; simp; omega
  have Hr := Lib.hid hr
  have Ha := Lib.hid ha
  have HsV := Lib.hid hsV
  have Hmono := Lib.hid (show ∀ (s t : Nat) (u v : Ev), s ≤ t → V[s]? = some u → V[t]? = some v → lessE v x = true → lessE u x = true from fun s t u v hst hu hv h9 => lessE_swo.le_lt (srt_at hsV hst hu hv) h9)
  have t0 : ((m : Int) - (a : Int) == 1) = true := by rw [beq_iff_eq]; omega
  have hbn : b ≤ n := by omega
  have Hb := Lib.hid hb
  clear hr ha hn hsV hn' hb
  go_enter Tryd.func81, Tryd.ntmps81
  go_wp2_with fail
  go_loopw [10, 11] (fun iv jv wr => ∃ (i j : Nat), m ≤ i ∧ i ≤ j ∧ j ≤ b ∧ iv = .int .i64 (i : Int) ∧ jv = .int .i64 (j : Int) ∧ Seek V (fun y => lessE y x) (i - m) (j - m) ∧ Ext w wr) (fun iv jv _ => (intOf jv).toNat - (intOf iv).toNat)
  case atStart => exact ⟨m, b, Nat.le_refl _, by have := Hb.out; omega, Nat.le_refl _, rfl, rfl, by have h9 := Seek.start V (fun y => lessE y x); rw [Nat.sub_self, show b - m = V.length by have := Hb.out; omega]; exact h9, Keeps.refl _ _⟩
  case round =>
    obtain ⟨i, j, hmi, hij, hjb, rfl, rfl, hsk, hx⟩ := hrel
    have Hsk := Lib.hid hsk
    have Hx := Lib.hid hx
    have hrow := Hr.out.ext hx
    clear hsk hx
    by_cases hlt : i < j
    · have hlt' : (i : Int) < (j : Int) := by omega
      obtain ⟨h, hh⟩ : ∃ h : Nat, h = (i + j) / 2 := ⟨_, rfl⟩
      have eh : ((i : Int) + (j : Int)) / 2 = (h : Int) := by omega
      have hh1 : i ≤ h := by omega
      have hh2 : h < j := by omega
      clear hh
      obtain ⟨y, hy⟩ : ∃ y, V[h - m]? = some y := ⟨_, List.getElem?_eq_getElem (by have := Hb.out; omega)⟩
      have e1 : P ++ x :: V ++ Q = P ++ x :: (V ++ Q) := by simp
      have hyr : (P ++ x :: V ++ Q)[h]? = some y := by
        have h9 : (P ++ [x]).length = m := by have := Ha.out; simp; omega
        rw [show P ++ x :: V ++ Q = (P ++ [x]) ++ (V ++ Q) by simp, List.getElem?_append_right (by omega), h9, List.getElem?_append_left (by have := Hb.out; omega)]
        exact hy
      obtain ⟨x0, x1, x2, x3, x4, x5, x6, x7⟩ := hrow.cells (k := a) (e := x) (by rw [e1]; exact at_mid Ha.out)
      obtain ⟨y0, y1, y2, y3, y4, y5, y6, y7⟩ := hrow.cells (k := h) (e := y) hyr
      have hgl := hrow.lt
      have CC := Lib.hid (fun (W : World) => ev_Compare y x W)
      have hcn := cmpE_neg (a := y) (b := x)
      obtain ⟨cz, hcz⟩ : ∃ cz, cz = cmpE y x := ⟨_, rfl⟩
      rw [← hcz] at CC hcn
      have k0 : (0 : Int) ≤ (h : Int) := by omega
      have k1 : (h : Int) < (n : Int) := by omega
      have k2 : (0 : Int) ≤ (a : Int) := by omega
      have k3 : (a : Int) < (n : Int) := by omega
      have Hy := Lib.hid hy
      clear hcz e1 hyr hrow hy
      cases hlz : lessE y x
      · rw [hlz] at hcn
        have hcn' : ¬ cz < 0 := by simpa using hcn
        have Hs2 := Lib.hid (Hsk.out.down Hmono.out (show i - m ≤ h - m by omega) (by omega) Hy.out hlz)
        clear hcn
        go_upto_region 5 with fail
        refine wp_region_ext wr (Keeps.refl _ _) (by kernel_rfl) (by kernel_rfl) ?_
        have hcell := fun (y : XW wr) => y.cell
        repeat (go_big_quiet_step (first | (go_at_call 33; with_reducible exact ext_calls (CC.out _))))
        refine wpQuiet_nil ?_
        rintro _ ⟨yw, rfl⟩
        clear hcell x0 x1 x2 x3 x4 x5 x6 x7 y0 y1 y2 y3 y4 y5 y6 y7
        go_wp2_with fail
        go_roundw
        case rel => exact ⟨i, h, hmi, hh1, by omega, rfl, rfl, Hs2.out, Hx.out.trans yw.h⟩
        case measure => simp [intOf]; omega
      · rw [hlz] at hcn
        have hcn' : cz < 0 := by simpa using hcn
        have Hs2 := Lib.hid (Hsk.out.up Hmono.out (show h - m < j - m by omega) Hy.out hlz)
        clear hcn
        go_upto_region 5 with fail
        refine wp_region_ext wr (Keeps.refl _ _) (by kernel_rfl) (by kernel_rfl) ?_
        have hcell := fun (y : XW wr) => y.cell
        repeat (go_big_quiet_step (first | (go_at_call 33; with_reducible exact ext_calls (CC.out _))))
        refine wpQuiet_nil ?_
        rintro _ ⟨yw, rfl⟩
        clear hcell x0 x1 x2 x3 x4 x5 x6 x7 y0 y1 y2 y3 y4 y5 y6 y7
        go_wp2_with fail
        go_roundw
        case rel => exact ⟨h + 1, j, by omega, by omega, hjb, by go_num, rfl, by rw [show h + 1 - m = h - m + 1 by omega]; exact Hs2.out, Hx.out.trans yw.h⟩
        case measure => simp [intOf]; omega
    · obtain rfl : i = j := by omega
      obtain ⟨s1, s2⟩ := Hsk.out.parts
      have hVl : (V.take (i - m)).length = i - m := by rw [List.length_take]; have := Hb.out; omega
      have eV := List.take_append_drop (i - m) V
      have HM := Lib.hid (ins_ahead lessE_swo (x := x) (v1 := V.take (i - m)) (v2 := V.drop (i - m)) (by rw [eV]; exact HsV.out) s1 s2)
      have H1 := Lib.hid (show MvAt g o S P (V.take (i - m)) (V.drop (i - m) ++ Q) x 0 w wr from ⟨by
        rw [List.take_zero, List.drop_zero, List.append_nil, ← List.append_assoc (V.take (i - m)), eV]
        simpa using hrow, Hx.out.keeps _⟩)
      have HeV := Lib.hid eV
      generalize V.take (i - m) = V1 at *
      generalize V.drop (i - m) = V2 at *
      have hti : ¬ (i : Int) < (i : Int) := by omega
      clear s1 s2 eV hrow
      go_wp2_with fail
      go_loopw [13] (fun kv wr' => ∃ (t : Nat), t ≤ V1.length ∧ kv = .int .i64 ((a + t : Nat) : Int) ∧ MvAt g o S P V1 (V2 ++ Q) x t w wr') (fun kv _ => i - (intOf kv).toNat)
      case atStart => exact ⟨0, Nat.zero_le _, by go_num, H1.out⟩
      case round =>
        obtain ⟨t, ht, rfl, hmv⟩ := hrel
        have Hmv := Lib.hid hmv
        clear hmv
        obtain ⟨k, hk⟩ : ∃ k, k = a + t := ⟨_, rfl⟩
        rw [← hk]
        have Hk := Lib.hid hk
        by_cases hlt2 : t < V1.length
        · obtain ⟨z, hz⟩ : ∃ z, V1[t]? = some z := ⟨_, List.getElem?_eq_getElem hlt2⟩
          obtain ⟨f1, _⟩ := MvAt.form (P := P) (R := V2 ++ Q) (x := x) hlt2 hz
          have hrow := Hmv.out.row
          rw [f1] at hrow
          have e2 : (P ++ V1.take t) ++ x :: [] ++ z :: (V1.drop (t + 1) ++ (V2 ++ Q)) = (P ++ V1.take t) ++ x :: (z :: (V1.drop (t + 1) ++ (V2 ++ Q))) := by simp
          have hl9 : (P ++ V1.take t).length = k := by have := Ha.out; simp; omega
          obtain ⟨x0, x1, x2, x3, x4, x5, x6, x7⟩ := hrow.cells (k := k) (e := x) (by rw [e2]; exact at_mid hl9)
          obtain ⟨z0, z1, z2, z3, z4, z5, z6, z7⟩ := hrow.cells (k := k + 1) (e := z) (at_mid (by rw [List.length_append, hl9]; rfl))
          have hfree := hrow.free
          have Hsw := Lib.hid (Hmv.out.swap (k := k) hlt2 hz (by have := Ha.out; omega))
          have q0 : (0 : Int) ≤ (k : Int) + 1 := by omega
          have q1 : (k : Int) + 1 < (n : Int) := by omega
          have q2 : IntKind.i64.wrap ((k : Int) + 1) = (k : Int) + 1 := by rw [IntKind.wrap_i64]; omega
          have q3 : (0 : Int) ≤ (k : Int) := by omega
          have q4 : (k : Int) < (n : Int) := by omega
          have q5 : (k : Int) < (i : Int) - 1 := by omega
          have r1 : ((k : Int) + 1).toNat = k + 1 := by omega
          clear hz f1 e2 hl9 hrow hk
          go_upto_region 11 with fail
          go_region_with fail
          all_goals
            have hsw := Hsw.out.ext (Keeps.drew (Keeps.refl _ _))
            obtain ⟨Z, hZ⟩ : ∃ Z, Z = (set8 (set8 wr g (o + k * 8) z) g (o + (k + 1) * 8) x).drew := ⟨_, rfl⟩
            rw [← hZ] at hsw
            unfold set8 at hZ
            rw [← hZ]
            have Hz := Lib.hid hsw
            clear hsw hZ x0 x1 x2 x3 x4 x5 x6 x7 z0 z1 z2 z3 z4 z5 z6 z7 hfree
            go_wp2_with fail
            refine ⟨⟨t + 1, by omega, by have := Hk.out; congr 1; omega, Hz.out⟩, ?_⟩
            simp [intOf]; omega
        · have htl : t = V1.length := by omega
          have q5 : ¬ (k : Int) < (i : Int) - 1 := by omega
          have Hend := Lib.hid (show ∃ M, Srt lessE M ∧ Cls lessE (x :: V) M ∧ Row wr g o S (P ++ M ++ Q) ∧ Keeps (fun k => k ≠ g) w wr from ⟨V1 ++ x :: V2, HM.out.1, by rw [← HeV.out]; exact HM.out.2, by
            have h9 := Hmv.out.row
            rw [htl] at h9
            simpa using h9, Hmv.out.keep⟩)
          clear htl hk
          go_wp2_with fail
          exact ⟨rfl, .tuple #[], by simp [results, Tryd.results81], rfl, Hend.out⟩
end Go.Proofs.YtmhkgfoimkonoaaDoor
