/-
  What is proved here: slices.Grow and slices.Concat of events; the program's Merge. Conditions: at most a hundred thousand events; texts of at most a million bytes; the library's variables, and the names of the kinds, hold what their text lays.
  the program's Merge of two texts. Conditions: texts of at most a million bytes, that come to at most fifty thousand events; the library's variables, and the names of the kinds, hold what their text lays.
  the document's Twin and Alike. Conditions: at most a million events.
-/
import Derived.Test.YtmhkgfoimkonoaaDoorExI2
import Derived.Lib.AppendZerosOnto
import Derived.Test.YtmhkgfoimkonoaaDoorExL
namespace Go.Proofs.YtmhkgfoimkonoaaDoor
open Go Go.RowKit Go.Proofs
attribute [local go_sem ↓] Go.wp_at_zero Go.wp_at_succ
set_option maxRecDepth 100000 in
set_option maxHeartbeats 4000000 in
theorem evs_Grow_zero (w : World) : Calls Tryd.prog 77 #[.slice none 0 0, .int .i64 0] w fun e w' => e = .returned (.slice none 0 0) ∧ w' = w := by
  go_enter Tryd.func77, Tryd.ntmps77
  go_wp2_with fail
  go_ret
  exact ⟨rfl, rfl⟩
set_option maxRecDepth 100000 in
set_option maxHeartbeats 4000000 in
theorem evs_Grow (n : Nat) (w : World) (h0 : 0 < n) (hn : n ≤ 200000) :
    Calls Tryd.prog 77 #[.slice none 0 0, .int .i64 (n : Int)] w fun e w' => ∃ c, e = .returned (.slice (some ⟨w.heap.size, 0, none⟩) 0 c) ∧ Own evR 30 (fun _ => True) w' w.heap.size (.slice (some ⟨w.heap.size, 0, none⟩) 0 c) 0 [] ∧ Ext w w' := by
  obtain ⟨i0, hi0, hz0, hz1, hz2⟩ := info_part3 info_apiEv
  have h1 : ¬ ((n : Int) < 0) := by omega
  have h4 : (n : Int) > 0 := by omega
  have hold : (Builtin.firstCells i0.size 0 (.slice none 0 0)).run Tryd.prog w.drew = .ok (([] : List Value).toArray) w.drew := run_firstCells_none w.drew i0.size 0 0 0
  have hrz := fun ty => Lib.run_append_grow_zeros (P := Tryd.prog) w 22 3 ty 30 i0 _ .i64 .i64 Tryd.underlying22 Tryd.underlying3 hi0 hz0 none 0 0 [] hold n (by omega) (by omega) (by omega) (by omega)
      (by rw [hz2]; omega)
      (growslice_fits (by omega) (by rw [hz2]; omega))
  simp only [Nat.zero_add] at hrz
  have hGn : n ≤ grownCap w n 0 30 := grownCap_ge w _ _ _
  have hGm : grownCap w n 0 30 ≤ maxLen := grownCap_le_maxLen w n 0 30 (by unfold maxLen; omega)
  obtain ⟨G, hG⟩ : ∃ G, G = grownCap w n 0 30 := ⟨_, rfl⟩
  rw [← hG] at hGn hGm
  simp only [← hG] at hrz
  have hG63 : G ≤ 9223372036854775807 := by unfold maxLen at hGm; omega
  clear hold hG
  obtain ⟨W1, hW1⟩ : ∃ W1, W1 = w.drew.alloc (.cells (([] : List Value).toArray ++ Builtin.zeroCells (Value.agg #[.string ⟨#[]⟩, .int .i64 0, .int .i64 0, .int .i64 0, .string ⟨#[]⟩, .string ⟨#[]⟩, .int .i64 0, .string ⟨#[]⟩]).cells n ++ Builtin.zeroCells (Value.agg #[.string ⟨#[]⟩, .int .i64 0, .int .i64 0, .int .i64 0, .string ⟨#[]⟩, .string ⟨#[]⟩, .int .i64 0, .string ⟨#[]⟩]).cells (G - n)) 30) := ⟨_, rfl⟩
  have HE := Lib.hid (show Own evR 30 (fun _ => True) W1 w.heap.size (.slice (some ⟨w.heap.size, 0, none⟩) 0 G) 0 [] ∧ Ext w W1 by
    rw [hW1]
    refine ⟨Own.of_evl rfl ⟨rfl, .inr ⟨w.heap.size, G, _, rfl, Nat.le_refl _, blk_new w.drew _, Nat.zero_le _, hGm, ?_, by simp⟩⟩, (Keeps.refl _ _).drew.alloc _⟩
    rw [Array.size_append, Array.size_append, size_zeroCells, size_zeroCells]
    simp [Value.cells]
    omega)
  have hrz' := fun ty => (hrz ty).trans (congrArg _ hW1.symm)
  clear hrz hW1 hGm
  go_enter Tryd.func77, Tryd.ntmps77
  go_wp2_with (at_builtin; refine Lib.wpList_append_run _ rfl _ _ _ _ rfl _ _ rfl rfl _ _ (hrz' _) ?_)
  all_goals
    go_ret
    exact ⟨G, rfl, HE.out.1, HE.out.2⟩
theorem evs_Grow_any (n : Nat) (w : World) (hn : n ≤ 200000) :
    Calls Tryd.prog 77 #[.slice none 0 0, .int .i64 (n : Int)] w fun e w' => ∃ A c, e = .returned (.slice A 0 c) ∧ Own evR 30 (fun _ => True) w' w.heap.size (.slice A 0 c) 0 [] ∧ Ext w w' := by
  rcases Nat.eq_zero_or_pos n with rfl | h0
  · exact (evs_Grow_zero w).mono fun _ _ ⟨h1, h2⟩ => ⟨none, 0, h1, Own.nil_, h2 ▸ Keeps.refl _ _⟩
  · exact (evs_Grow n w h0 hn).mono fun _ _ ⟨c, h1, h2, h3⟩ => ⟨_, c, h1, h2, h3⟩
set_option maxRecDepth 100000 in
set_option maxHeartbeats 4000000 in
theorem evs_Concat (b : Nat) (A1 A2 : Option Addr) (n1 n2 c1 c2 : Nat) (l1 l2 : List Ev) (ok1 ok2 : Nat → Prop) (w : World) (hb0 : w.cell? ⟨b, 0, none⟩ = some (.slice A1 n1 c1)) (hb1 : w.cell? ⟨b, 1, none⟩ = some (.slice A2 n2 c2)) (h1 : Sl evR ok1 w A1 n1 l1) (h2 : Sl evR ok2 w A2 n2 l2) (hn1 : n1 ≤ 100000) (hn2 : n2 ≤ 100000) :
    Calls Tryd.prog 50 #[.slice (some ⟨b, 0, none⟩) 2 2] w fun e w' => ∃ B m cb, e = .returned (.slice B m cb) ∧ Own evR 30 (fun _ => True) w' w.heap.size (.slice B m cb) m (l1 ++ l2) ∧ Ext w w' := by
  obtain ⟨i0, hi0, hz0, hz1, hz2⟩ := info_part3 info_apiEv
  have H1 := Lib.hid h1
  have H2 := Lib.hid h2
  have Hl1 := Lib.hid h1.1
  have Hl2 := Lib.hid h2.1
  have Hb0 := Lib.hid hb0
  have Hb1 := Lib.hid hb1
  have Hbl := Lib.hid (cell_lt hb0)
  clear h1 h2
  go_enter Tryd.func50, Tryd.ntmps50
  go_wp2_with fail
  go_loopw [3, 11] (fun v i wr => ∃ z : Int, v = .int .i64 z ∧ (i = .int .i64 0 ∧ z = 0 ∨ i = .int .i64 1 ∧ z = n1 ∨ i = .int .i64 2 ∧ z = (n1 + n2 : Nat)) ∧ Ext w wr) (fun _ i _ => 2 - (intOf i).toNat)
  case atStart => exact ⟨0, rfl, .inl ⟨rfl, rfl⟩, Keeps.refl _ _⟩
  case round =>
    obtain ⟨z, rfl, hi, hxx⟩ := hrel
    have Hxx := Lib.hid hxx
    have p0 := (hxx.cell (p := ⟨b, 0, none⟩) Hbl.out trivial).trans Hb0.out
    have p1 := (hxx.cell (p := ⟨b, 1, none⟩) Hbl.out trivial).trans Hb1.out
    clear hxx hb0 hb1
    rcases hi with ⟨rfl, hz⟩ | ⟨rfl, hz⟩ | ⟨rfl, hz⟩
    · have q0 : (0 : Int) ≤ z := by omega
      have q1 : z ≤ 200000 := by omega
      have q2 : ¬ z + (n1 : Int) < 0 := by omega
      have Hz := Lib.hid hz
      clear hz
      go_wp2_with fail
      go_roundw
      case rel => exact ⟨_, rfl, .inr (.inl ⟨rfl, by have := Hz.out; omega⟩), Hxx.out⟩
      case measure => simp [intOf]
    · have q0 : (0 : Int) ≤ z := by omega
      have q1 : z ≤ 200000 := by omega
      have q2 : ¬ z + (n2 : Int) < 0 := by omega
      have Hz := Lib.hid hz
      clear hz
      go_wp2_with fail
      go_roundw
      case rel => exact ⟨_, rfl, .inr (.inr ⟨rfl, by have := Hz.out; omega⟩), Hxx.out⟩
      case measure => simp [intOf]
    · have G := Lib.hid (evs_Grow_any (n1 + n2) wr (by omega))
      rw [← hz] at G
      clear hz
      go_wp2_with fail
      refine G.out.mono ?_
      rintro _ w3 ⟨B, cb, rfl, hown, hx⟩
      have Hown := Lib.hid (hown.le Hxx.out.size)
      have Hx := Lib.hid (Hxx.out.trans hx)
      clear hown hx p0 p1
      go_wp2_with fail
      go_loopw [6, 27] (fun v i wr => ∃ (m : Nat) (d : List Ev) (B : Option Addr) (cb : Nat), v = .slice B m cb ∧ Own evR 30 (fun _ => True) wr w.heap.size (.slice B m cb) m d ∧ Ext w wr ∧ (i = .int .i64 0 ∧ d = [] ∨ i = .int .i64 1 ∧ d = l1 ∨ i = .int .i64 2 ∧ d = l1 ++ l2)) (fun _ i _ => 2 - (intOf i).toNat)
      case atStart => exact ⟨0, [], B, cb, rfl, Hown.out, Hx.out, .inl ⟨rfl, rfl⟩⟩
      case round =>
        obtain ⟨m, d, B, cb, rfl, hown, hx, hi⟩ := hrel
        have Hown := Lib.hid hown
        have Hx := Lib.hid hx
        have hml := hown.1
        have p0 := (hx.cell (p := ⟨b, 0, none⟩) Hbl.out trivial).trans Hb0.out
        have p1 := (hx.cell (p := ⟨b, 1, none⟩) Hbl.out trivial).trans Hb1.out
        have hl1 := Hl1.out
        clear hown hx
        rcases hi with ⟨rfl, rfl⟩ | ⟨rfl, rfl⟩ | ⟨rfl, rfl⟩
        · have hm : m ≤ 200000 := by simp at hml; omega
          clear hml hl1
          go_wp2_with (at_builtin; refine wpList_append_Own (ok := fun _ => True) (R := evR) _ rfl (.tmp 31) (.tmp 32) 22 rfl 30 i0 _ 96 w.heap.size Tryd.underlying22 hi0 hz0 hz1 hz2 rfl (by decide) rfl Hown.out _ n1 _ l1 rfl (Sl.flat_src evR_flat (H1.out.ext Hx.out)) (by omega) (by decide) (by have := Hx.out.size; omega) ?_; intro A8 c8 w8 hown8 hg8 hat8; have Hown8 := Lib.hid hown8; have Hx8 := Lib.hid (show Ext w w8 from Keeps.grown Hx.out hg8 (fun g hg hl => by have := (Hown.out.lt g hg).1; omega)); clear hown8 hg8 hat8)
          go_roundw
          case rel => exact ⟨_, _, A8, c8, rfl, by simpa using Hown8.out, Hx8.out, .inr (.inl ⟨rfl, rfl⟩)⟩
          case measure => simp [intOf]
        · have hm : m ≤ 200000 := by omega
          clear hml hl1
          go_wp2_with (at_builtin; refine wpList_append_Own (ok := fun _ => True) (R := evR) _ rfl (.tmp 31) (.tmp 32) 22 rfl 30 i0 _ 96 w.heap.size Tryd.underlying22 hi0 hz0 hz1 hz2 rfl (by decide) rfl Hown.out _ n2 _ l2 rfl (Sl.flat_src evR_flat (H2.out.ext Hx.out)) (by omega) (by decide) (by have := Hx.out.size; omega) ?_; intro A8 c8 w8 hown8 hg8 hat8; have Hown8 := Lib.hid hown8; have Hx8 := Lib.hid (show Ext w w8 from Keeps.grown Hx.out hg8 (fun g hg hl => by have := (Hown.out.lt g hg).1; omega)); clear hown8 hg8 hat8)
          go_roundw
          case rel => exact ⟨_, _, A8, c8, rfl, Hown8.out, Hx8.out, .inr (.inr ⟨rfl, rfl⟩)⟩
          case measure => simp [intOf]
        · clear hml hl1
          go_wp2_with fail
          go_ret
          exact ⟨B, m, cb, rfl, Hown.out, Hx.out⟩
end Go.Proofs.YtmhkgfoimkonoaaDoor
namespace Go.Proofs.YtmhkgfoimkonoaaDoor
open Go Go.RowKit Go.Proofs
attribute [local go_sem ↓] Go.wp_at_zero Go.wp_at_succ
theorem imp_len : ∀ (n : Nat) (l : List UInt8) (out : List Ev), l.length ≤ n → (impL (partsL 10 l) out).1.length ≤ out.length + l.length := by
  intro n
  induction n with
  | zero =>
    intro l out hn
    have : l = [] := List.eq_nil_of_length_eq_zero (Nat.le_zero.1 hn)
    subst this
    rw [impL_end]; simp
  | succ n ih =>
    intro l out hn
    rcases cut_cases 10 l with h | ⟨a, r, h, rfl⟩
    · by_cases hnil : l = []
      · subst hnil; rw [impL_end]; simp
      · rw [impL_torn h hnil]; simp
    · cases hp : parseE (bts a) with
      | none => rw [impL_none h hp]; simp
      | some e =>
        rw [impL_some h hp]
        by_cases hw : wrongE out e = 0
        · rw [if_pos hw]
          have := ih r (out ++ [e]) (by simp at hn; omega)
          simp at this ⊢
          omega
        · rw [if_neg hw]; simp
theorem impS_len (s : ByteArray) : (impS s).1.length ≤ s.size := by
  have := imp_len _ s.data.toList [] (Nat.le_refl _)
  have h := size_list s
  unfold impS
  simp at this ⊢
  omega
theorem impS_ok {s : ByteArray} (hs : s.size ≤ 999999) (h : (impS s).2.2 = 0) : (impS s).2.1 = 0 ∧ Asc (impS s).1 ∧ Ids (impS s).1 ∧ (∀ e ∈ (impS s).1, mayE e = true) ∧ textB (impS s).1 = s := by
  have hl := size_list s
  obtain ⟨es, e1, e2, e3, e4, e5, e6⟩ := imp_ok _ s.data.toList [] (Nat.le_refl _) (by omega) List.Pairwise.nil List.Pairwise.nil (fun _ h => by cases h) h
  have h1 : (impS s).1 = es := by unfold impS; rw [e1]; simp
  refine ⟨e2, by rw [h1]; simpa using e3, by rw [h1]; simpa using e4, by rw [h1]; simpa using e5, ?_⟩
  rw [h1]
  unfold textB
  rw [e6, bts_of]
def mergeS (a b : ByteArray) : ByteArray × Int × Int :=
  if (impS a).2.2 ≠ 0 then (⟨#[]⟩, (impS a).2.1, (impS a).2.2) else if (impS b).2.2 ≠ 0 then (⟨#[]⟩, (impS b).2.1, (impS b).2.2) else (textB (allE ((impS a).1 ++ (impS b).1)), 0, 0)
set_option maxRecDepth 100000 in
set_option maxHeartbeats 4000000 in
theorem ex_Merge (a b : ByteArray) (w : World) (ha : a.size ≤ 999999) (hb : b.size ≤ 999999) (hla : (impS a).1.length ≤ 50000) (hlb : (impS b).1.length ≤ 50000) (hv : Vars w) :
    Calls Tryd.prog 25 #[.string a, .string b] w fun r w' => r = .returned (.tuple #[.string (mergeS a b).1, .int .i64 (mergeS a b).2.1, .int .i64 (mergeS a b).2.2]) ∧ Ext w w' := by
  have Hv := Lib.hid hv
  have C1 := Lib.hid (ex_Import a w ha hv)
  have C2 := Lib.hid (fun (W : World) (h : Ext w W) => ex_Import b W hb (hv.ext h))
  have Ha := Lib.hid (fun h => (impS_ok ha h).2.2.2.1)
  have Hb := Lib.hid (fun h => (impS_ok hb h).2.2.2.1)
  have Hm := Lib.hid (show mergeS a b = if (impS a).2.2 ≠ 0 then (⟨#[]⟩, (impS a).2.1, (impS a).2.2) else if (impS b).2.2 ≠ 0 then (⟨#[]⟩, (impS b).2.1, (impS b).2.2) else (textB (allE ((impS a).1 ++ (impS b).1)), 0, 0) from rfl)
  unfold ImPost at C1 C2
  obtain ⟨R, hR⟩ : ∃ R, R = impS a := ⟨_, rfl⟩
  obtain ⟨S, hS⟩ : ∃ S, S = impS b := ⟨_, rfl⟩
  rw [← hR] at C1 Ha Hm hla
  rw [← hS] at C2 Hb Hm hlb
  obtain ⟨l1, n1, e1⟩ := R
  obtain ⟨l2, n2, e2⟩ := S
  simp only at C1 C2 Ha Hb Hm hla hlb
  clear hR hS hv
  by_cases h1 : e1 = 0
  · by_cases h2 : e2 = 0
    · have Hf := Lib.hid (show mergeS a b = (textB (allE (l1 ++ l2)), 0, 0) by rw [Hm.out, if_neg (by simpa using h1), if_neg (by simpa using h2)])
      have Hsm := Lib.hid (show ∀ e ∈ l1 ++ l2, EvSm e from fun e he => evSm_may (by
        rcases List.mem_append.1 he with he | he
        · exact Ha.out h1 e he
        · exact Hb.out h2 e he))
      subst h1 h2
      clear Hm Ha Hb
      go_enter Tryd.func25, Tryd.ntmps25
      go_wp2_with fail
      refine C1.out.mono ?_
      rintro _ w1 ⟨B1, k1, c1, rfl, hown1, hx1⟩
      have Hx1 := Lib.hid hx1
      have Hs1 := Lib.hid hown1.evSl
      have hk1 : l1.length = k1 := hown1.1
      clear hx1 hown1
      go_wp2_with fail
      refine (C2.out w1 Hx1.out).mono ?_
      rintro _ w2 ⟨B2, k2, c2, rfl, hown2, hx2⟩
      have Hx2 := Lib.hid (Hx1.out.trans hx2)
      have Hs1' := Lib.hid (Hs1.out.ext hx2)
      have Hs2 := Lib.hid hown2.evSl
      have hk2 : l2.length = k2 := hown2.1
      have hk1' : k1 ≤ 50000 := by omega
      have hk2' : k2 ≤ 50000 := by omega
      have Hg := Lib.hid (fun (o : Obj) => blk_new w2 o)
      clear hx2 hown2 hk1 hk2
      go_wp2_with fail
      refine (evs_Concat w2.heap.size B1 B2 k1 k2 c1 c2 l1 l2 _ _ _ (blk_cell (Hg.out _) 0 rfl) (blk_cell (Hg.out _) 1 rfl) (Hs1'.out.alloc _) (Hs2.out.alloc _) (by omega) (by omega)).mono ?_
      rintro _ w3 ⟨B3, k3, c3, rfl, hown3, hx3⟩
      have Hx3 := Lib.hid (Hx2.out.trans (Keeps.trans ((Keeps.refl _ _).alloc _) hx3))
      have hk3 : (l1 ++ l2).length = k3 := hown3.1
      have H3 := Lib.hid (ex_All B3 k3 c3 _ _ w3 hown3.evSl (by rw [← hk3, List.length_append]; omega) Hsm.out (Hv.out.ext Hx3.out))
      clear hx3 hown3 hk3
      go_wp2_with fail
      refine H3.out.mono ?_
      rintro _ w4 ⟨rfl, hx4⟩
      have Hx4 := Lib.hid (Hx3.out.trans hx4)
      clear hx4
      go_wp2_with fail
      go_ret3
      exact ⟨by rw [Hf.out]; rfl, Hx4.out⟩
    · have Hf := Lib.hid (show mergeS a b = (⟨#[]⟩, n2, e2) by rw [Hm.out, if_neg (by simpa using h1), if_pos h2])
      have h2' : (e2 != 0) = true := by simpa using h2
      subst h1
      clear Hm Ha Hb h2
      go_enter Tryd.func25, Tryd.ntmps25
      go_wp2_with fail
      refine C1.out.mono ?_
      rintro _ w1 ⟨B1, k1, c1, rfl, _, hx1⟩
      have Hx1 := Lib.hid hx1
      clear hx1
      go_wp2_with fail
      refine (C2.out w1 Hx1.out).mono ?_
      rintro _ w2 ⟨B2, k2, c2, rfl, _, hx2⟩
      have Hx2 := Lib.hid (Hx1.out.trans hx2)
      clear hx2
      go_wp2_with fail
      go_ret3
      exact ⟨by rw [Hf.out]; rfl, Hx2.out⟩
  · have Hf := Lib.hid (show mergeS a b = (⟨#[]⟩, n1, e1) by rw [Hm.out, if_pos h1])
    have h1' : (e1 != 0) = true := by simpa using h1
    clear Hm Ha Hb h1
    go_enter Tryd.func25, Tryd.ntmps25
    go_wp2_with fail
    refine C1.out.mono ?_
    rintro _ w1 ⟨B1, k1, c1, rfl, _, hx1⟩
    have Hx1 := Lib.hid hx1
    clear hx1
    go_wp2_with fail
    go_ret3
    exact ⟨by rw [Hf.out]; rfl, Hx1.out⟩
end Go.Proofs.YtmhkgfoimkonoaaDoor
namespace Go.Proofs.YtmhkgfoimkonoaaDoor
open Go Go.RowKit Go.Proofs
attribute [local go_sem ↓] Go.wp_at_zero Go.wp_at_succ
attribute [local go_sem high] ev_neq ev_eql
set_option maxRecDepth 100000 in
set_option maxHeartbeats 4000000 in
theorem rf_Twin (A : Option Addr) (n c : Nat) (l : List Ev) (e : Ev) (ok : Nat → Prop) (w : World) (hs : Sl evR ok w A n l) (hn : n ≤ 1000000) :
    Calls Tryd.prog 48 #[.slice A n c, .agg #[.string e.src, .int .i64 e.num, .int .i64 e.tick, .int .i64 e.kind, .string e.person, .string e.item, .int .i64 e.value, .string e.text]] w fun r w' => r = .returned (.bool (l.any fun x => sameE x e)) ∧ Ext w w' := by
  have Hs := Lib.hid hs
  have Hl := Lib.hid hs.1
  clear hs
  go_enter Tryd.func48, Tryd.ntmps48
  go_wp2_with fail
  obtain ⟨X, hX⟩ : ∃ X, X = w.alloc (.cells #[.string e.src, .int .i64 e.num, .int .i64 e.tick, .int .i64 e.kind, .string e.person, .string e.item, .int .i64 e.value, .string e.text] 30) := ⟨_, rfl⟩
  have HX := Lib.hid (show Ext w X by rw [hX]; exact (Keeps.refl _ _).alloc _)
  have HgX := Lib.hid (show X.heap[w.heap.size]? = some (.cells #[.string e.src, .int .i64 e.num, .int .i64 e.tick, .int .i64 e.kind, .string e.person, .string e.item, .int .i64 e.value, .string e.text] 30) by rw [hX]; exact blk_new _ _)
  try rw [← hX]
  go_loopw [5] (fun i wr => ∃ k : Nat, k ≤ n ∧ i = .int .i64 k ∧ (l.take k).any (fun x => sameE x e) = false ∧ Ext X wr) (fun i _ => n - (intOf i).toNat)
  case atStart => exact ⟨0, Nat.zero_le _, rfl, by simp, by rw [hX]; exact Keeps.refl _ _⟩
  case round =>
    obtain ⟨k, hk, rfl, hany, hx⟩ := hrel
    have Hany := Lib.hid hany
    have Hx := Lib.hid hx
    have gx := hx.blk HgX.out
    have e0 := blk_cell gx 0 rfl
    have e1 := blk_cell gx 1 rfl
    have hwx := (Array.getElem?_eq_some_iff.1 gx).1
    clear hany hx gx hX
    by_cases hlt : k < n
    · obtain ⟨b, o, y, rfl, hb, _, he, d0, d1, d2, d3, d4, d5, d6, d7⟩ := (Hs.out.ext (HX.out.trans Hx.out)).ev hlt
      have He := Lib.hid he
      have j0 : (0 : Int) ≤ (k : Int) := by omega
      have j1 : (k : Int) < (n : Int) := by omega
      have hsb : (y.src == e.src) = (y.src.toList == e.src.toList) := beq_toListBytes _ _
      have Hst := Lib.hid (show sameE y e = false → (l.take (k + 1)).any (fun x => sameE x e) = false from fun h => by rw [List.take_add_one, He.out, List.any_append, Hany.out]; simp [h])
      have Hye := Lib.hid (show sameE y e = true → l.any (fun x => sameE x e) = true from fun h => List.any_eq_true.2 ⟨y, List.mem_of_getElem? He.out, h⟩)
      clear he d2 d3 d4 d5 d6 d7
      cases hsr : (y.src == e.src)
      · rw [hsr] at hsb
        have s1 : (y.src.toList == e.src.toList) = false := hsb.symm
        have Hsame := Lib.hid (show sameE y e = false by unfold sameE; rw [hsr]; rfl)
        clear hsb hsr
        go_upto_region 4 with fail
        refine wp_region_ext wr (Keeps.refl _ _) (by kernel_rfl) (by kernel_rfl) ?_
        have hcell := fun (y : XW wr) => y.cell
        repeat (go_big_quiet_step (fail))
        refine wpQuiet_nil ?_
        rintro _ ⟨y0, rfl⟩
        clear hcell d0 d1 e0 e1
        go_wp2_with fail
        go_roundw
        case rel => exact ⟨k + 1, by omega, by go_num, Hst.out Hsame.out, Hx.out.trans y0.h⟩
        case measure => simp [intOf]; omega
      · rw [hsr] at hsb
        have s1 : (y.src.toList == e.src.toList) = true := hsb.symm
        by_cases hnr : y.num = e.num
        · have s2 : (y.num == e.num) = true := by simpa using hnr
          have Hsame := Lib.hid (show sameE y e = true by unfold sameE; rw [hsr, hnr]; simp)
          clear hsb hsr hnr
          go_upto_region 4 with fail
          refine wp_region_ext wr (Keeps.refl _ _) (by kernel_rfl) (by kernel_rfl) ?_
          have hcell := fun (y : XW wr) => y.cell
          repeat (go_big_quiet_step (fail))
          refine wpQuiet_nil ?_
          rintro _ ⟨y0, rfl⟩
          clear hcell d0 d1 e0 e1
          go_wp2_with fail
          go_ret
          exact ⟨by rw [Hye.out Hsame.out]; rfl, HX.out.trans (Hx.out.trans y0.h)⟩
        · have s2 : (y.num == e.num) = false := by simpa using hnr
          have Hsame := Lib.hid (show sameE y e = false by unfold sameE; rw [hsr]; simpa using hnr)
          clear hsb hsr hnr
          go_upto_region 4 with fail
          refine wp_region_ext wr (Keeps.refl _ _) (by kernel_rfl) (by kernel_rfl) ?_
          have hcell := fun (y : XW wr) => y.cell
          repeat (go_big_quiet_step (fail))
          refine wpQuiet_nil ?_
          rintro _ ⟨y0, rfl⟩
          clear hcell d0 d1 e0 e1
          go_wp2_with fail
          go_roundw
          case rel => exact ⟨k + 1, by omega, by go_num, Hst.out Hsame.out, Hx.out.trans y0.h⟩
          case measure => simp [intOf]; omega
    · obtain rfl : k = n := by omega
      have Hend := Lib.hid (show l.any (fun x => sameE x e) = false by have h9 := Hany.out; rwa [List.take_of_length_le (Nat.le_of_eq Hl.out)] at h9)
      go_wp2_with fail
      go_ret
      exact ⟨by rw [Hend.out]; rfl, HX.out.trans Hx.out⟩
/-- Of two places the events are one, if in identity. -/
def PairOk (a b : Ev) : Prop := sameE a b = true → a = b
theorem alike_of {l : List Ev} (h : ∀ (i k : Nat) (a b : Ev), k < i → l[i]? = some a → l[k]? = some b → PairOk a b) : Alike l := by
  intro a ha b hb hs
  obtain ⟨i, hi, ei⟩ := List.mem_iff_getElem.1 ha
  obtain ⟨k, hk, ek⟩ := List.mem_iff_getElem.1 hb
  have h1 : l[i]? = some a := by rw [List.getElem?_eq_getElem hi, ei]
  have h2 : l[k]? = some b := by rw [List.getElem?_eq_getElem hk, ek]
  rcases Nat.lt_trichotomy k i with h9 | h9 | h9
  · exact h i k a b h9 h1 h2 hs
  · subst h9; rw [h1] at h2; exact Option.some.inj h2
  · exact (h k i b a h9 h2 h1 (by rw [sameE_comm]; exact hs)).symm
set_option maxRecDepth 100000 in
set_option maxHeartbeats 8000000 in
theorem rf_Alike (A : Option Addr) (n c : Nat) (l : List Ev) (ok : Nat → Prop) (w : World) (hs : Sl evR ok w A n l) (hn : n ≤ 1000000) :
    Calls Tryd.prog 26 #[.slice A n c] w fun r w' => ∃ b, r = .returned (.bool b) ∧ (b = true → Alike l) ∧ Ext w w' := by
  have Hs := Lib.hid hs
  have Hl := Lib.hid hs.1
  clear hs
  go_enter Tryd.func26, Tryd.ntmps26
  go_wp2_with fail
  go_loopw [3] (fun i wr => ∃ p : Nat, p ≤ n ∧ i = .int .i64 p ∧ (∀ (i k : Nat) (a b : Ev), k < i → i < p → l[i]? = some a → l[k]? = some b → PairOk a b) ∧ Ext w wr) (fun i _ => n - (intOf i).toNat)
  case atStart => exact ⟨0, Nat.zero_le _, rfl, fun _ _ _ _ _ h => absurd h (Nat.not_lt_zero _), Keeps.refl _ _⟩
  case round =>
    obtain ⟨p, hp, rfl, hok, hx⟩ := hrel
    have Hok := Lib.hid hok
    have Hx := Lib.hid hx
    clear hok hx
    by_cases hlt : p < n
    · have j0 : (0 : Int) ≤ (p : Int) := by omega
      have j1 : (p : Int) < (n : Int) := by omega
      obtain ⟨V, hV⟩ : ∃ V, V = wr := ⟨_, rfl⟩
      rw [← hV] at Hx ⊢
      clear hV
      go_wp2_with fail
      go_loopw [4] (fun i wr => ∃ q : Nat, q ≤ p ∧ i = .int .i64 q ∧ (∀ (k : Nat) (a b : Ev), k < q → l[p]? = some a → l[k]? = some b → PairOk a b) ∧ Ext V wr) (fun i _ => p - (intOf i).toNat)
      case atStart => exact ⟨0, Nat.zero_le _, rfl, fun _ _ _ h => absurd h (Nat.not_lt_zero _), Keeps.refl _ _⟩
      case round =>
        obtain ⟨q, hq, rfl, hok2, hx2⟩ := hrel
        have Hok2 := Lib.hid hok2
        have Hx2 := Lib.hid hx2
        clear hok2 hx2
        by_cases hqp : q < p
        · have i0 : (0 : Int) ≤ (q : Int) := by omega
          have i1 : (q : Int) < (n : Int) := by omega
          obtain ⟨b, o, a, rfl, hb, _, hea, a0, a1, a2, a3, a4, a5, a6, a7⟩ := (Hs.out.ext (Hx.out.trans Hx2.out)).ev hlt
          obtain ⟨b', o', z, hbb, _, _, hez, z0, z1, z2, z3, z4, z5, z6, z7⟩ := (Hs.out.ext (Hx.out.trans Hx2.out)).ev (k := q) (by omega)
          obtain ⟨rfl, rfl⟩ : b = b' ∧ o = o' := by
            injection hbb with hbb
            injection hbb with h1 h2 _
            exact ⟨h1, h2⟩
          have Hstep := Lib.hid (show PairOk a z → ∀ (k : Nat) (a b : Ev), k < q + 1 → l[p]? = some a → l[k]? = some b → PairOk a b from fun h k a' b' hk h1 h2 => by
            rcases Nat.lt_or_ge k q with h9 | h9
            · exact Hok2.out k a' b' h9 h1 h2
            · have : k = q := by omega
              subst this
              rw [hea] at h1
              rw [hez] at h2
              rw [← Option.some.inj h1, ← Option.some.inj h2]; exact h)
          have hsb : (a.src == z.src) = (a.src.toList == z.src.toList) := beq_toListBytes _ _
          clear hea hez hbb
          cases hsr : (a.src == z.src)
          · rw [hsr] at hsb
            have s1 : (a.src.toList == z.src.toList) = false := hsb.symm
            have Hpo := Lib.hid (show PairOk a z from fun h => by unfold sameE at h; rw [hsr] at h; cases h)
            clear hsb hsr
            go_upto_region 7 with fail
            refine wp_region_ext wr (Keeps.refl _ _) (by kernel_rfl) (by kernel_rfl) ?_
            have hcell := fun (y : XW wr) => y.cell
            repeat (go_big_quiet_step (fail))
            refine wpQuiet_nil ?_
            rintro _ ⟨y0, rfl⟩
            clear hcell a0 a1 a2 a3 a4 a5 a6 a7 z0 z1 z2 z3 z4 z5 z6 z7
            go_wp2_with fail
            go_roundw
            case rel => exact ⟨q + 1, by omega, by go_num, Hstep.out Hpo.out, Hx2.out.trans y0.h⟩
            case measure => simp [intOf]; omega
          · rw [hsr] at hsb
            have s1 : (a.src.toList == z.src.toList) = true := hsb.symm
            by_cases hnr : a.num = z.num
            · have s2 : (a.num == z.num) = true := by simpa using hnr
              clear hsb hsr hnr
              cases heq : eqE a z
              · go_upto_region 7 with fail
                refine wp_region_ext wr (Keeps.refl _ _) (by kernel_rfl) (by kernel_rfl) ?_
                have hcell := fun (y : XW wr) => y.cell
                repeat (go_big_quiet_step (fail))
                refine wpQuiet_nil ?_
                rintro _ ⟨y0, rfl⟩
                clear hcell a0 a1 a2 a3 a4 a5 a6 a7 z0 z1 z2 z3 z4 z5 z6 z7
                go_wp2_with fail
                go_ret
                exact ⟨false, rfl, fun h => (by cases h), Hx.out.trans (Hx2.out.trans y0.h)⟩
              · have Hpo := Lib.hid (show PairOk a z from fun _ => eqE_iff.1 heq)
                go_upto_region 7 with fail
                refine wp_region_ext wr (Keeps.refl _ _) (by kernel_rfl) (by kernel_rfl) ?_
                have hcell := fun (y : XW wr) => y.cell
                repeat (go_big_quiet_step (fail))
                refine wpQuiet_nil ?_
                rintro _ ⟨y0, rfl⟩
                clear hcell a0 a1 a2 a3 a4 a5 a6 a7 z0 z1 z2 z3 z4 z5 z6 z7
                go_wp2_with fail
                go_roundw
                case rel => exact ⟨q + 1, by omega, by go_num, Hstep.out Hpo.out, Hx2.out.trans y0.h⟩
                case measure => simp [intOf]; omega
            · have s2 : (a.num == z.num) = false := by simpa using hnr
              have Hpo := Lib.hid (show PairOk a z from fun h => absurd (sameE_iff.1 h).2 hnr)
              clear hsb hsr hnr
              go_upto_region 7 with fail
              refine wp_region_ext wr (Keeps.refl _ _) (by kernel_rfl) (by kernel_rfl) ?_
              have hcell := fun (y : XW wr) => y.cell
              repeat (go_big_quiet_step (fail))
              refine wpQuiet_nil ?_
              rintro _ ⟨y0, rfl⟩
              clear hcell a0 a1 a2 a3 a4 a5 a6 a7 z0 z1 z2 z3 z4 z5 z6 z7
              go_wp2_with fail
              go_roundw
              case rel => exact ⟨q + 1, by omega, by go_num, Hstep.out Hpo.out, Hx2.out.trans y0.h⟩
              case measure => simp [intOf]; omega
        · obtain rfl : q = p := by omega
          have Hnew := Lib.hid (show ∀ (i k : Nat) (a b : Ev), k < i → i < q + 1 → l[i]? = some a → l[k]? = some b → PairOk a b from fun i k a b hki hi h1 h2 => by
            rcases Nat.lt_or_ge i q with h9 | h9
            · exact Hok.out i k a b hki h9 h1 h2
            · have : i = q := by omega
              subst this
              exact Hok2.out k a b hki h1 h2)
          go_wp2_with fail
          go_roundw
          case rel => exact ⟨q + 1, by omega, by go_num, Hnew.out, Hx.out.trans Hx2.out⟩
          case measure => simp [intOf]; omega
    · obtain rfl : p = n := by omega
      go_wp2_with fail
      go_ret
      exact ⟨true, rfl, fun _ => alike_of fun i k a b hki h1 h2 => Hok.out i k a b hki (by have := (List.getElem?_eq_some_iff.1 h1).1; have := Hl.out; omega) h1 h2, Hx.out⟩
end Go.Proofs.YtmhkgfoimkonoaaDoor
