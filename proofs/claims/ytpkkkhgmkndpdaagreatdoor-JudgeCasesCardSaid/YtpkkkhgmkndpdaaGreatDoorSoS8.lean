/-
  What is proved here: the library's symMerge at a row of events merges two parts that are in order, whatever their lengths. Conditions: at most a million events.
  the library's stable sort of a row of events puts it in order, those at one place as they stood. Conditions: at most a hundred thousand events.
  the library's SortStableFunc at events. Conditions: at most a hundred thousand events.
  the program's Sort of events is the plain function's, in new memory. Conditions: at most a hundred thousand events.
  the program's Sort of events hands back the plain function's list, in new memory. Conditions: at most a hundred thousand events.
  the document's Sort of events is the plain function's list, in new memory. Conditions: at most a hundred thousand events.
-/
import Derived.Test.YtpkkkhgmkndpdaaGreatDoorSoS7
import Derived.Deep.RegionWith
namespace Go.Proofs.YtpkkkhgmkndpdaaGreatDoor
open Go Go.RowKit Go.Proofs
theorem sym_ok : ∀ N, SymOk N
  | 0 => fun g o n c S a m b P U V Q w _ _ _ _ _ _ _ h1 _ _ h9 => by omega
  | N + 1 => fun g o n c S a m b P U V Q w hr ha hm hb hn hU hV hu hv hmax hN => by
    have IH := sym_ok N
    by_cases h1 : U.length = 1
    · match U, h1 with
      | [x], _ =>
        refine (sym_A g o n c S a m b P V Q x w (by simpa using hr) ha (by simpa using hm) hb (by rw [← hn]; simp) hV hmax).mono ?_
        intro e w' h9
        simpa using h9
    · by_cases h2 : V.length = 1
      · match V, h2 with
        | [x], _ => exact sym_B g o n c S a m b P U Q x w (by simpa using hr) ha hm (by simpa using hb) (by rw [← hn]; simp) hU (by omega) hmax
      · by_cases h3 : (a + b) / 2 < m
        · exact sym_CA N IH g o n c S a m b P U V Q w ((a + b) / 2) ((a + b) / 2 + m - b) ((a + b) / 2) hr ha hn hU hV ⟨hm, hb, rfl, .inl ⟨h3, rfl, rfl⟩, hu, hv⟩ h3 rfl rfl (by omega) (by omega) hmax hN
        · exact sym_CB N IH g o n c S a m b P U V Q w ((a + b) / 2) a m hr ha hn hU hV ⟨hm, hb, rfl, .inr ⟨by omega, rfl, rfl⟩, hu, hv⟩ (by omega) rfl rfl (by omega) (by omega) hmax hN
theorem sym_merge (g o n c S a m b : Nat) (P U V Q : List Ev) (w : World) (hr : Row w g o S (P ++ U ++ V ++ Q)) (ha : P.length = a) (hm : a + U.length = m) (hb : m + V.length = b) (hn : (P ++ U ++ V ++ Q).length = n) (hU : Srt lessE U) (hV : Srt lessE V) (hu : 0 < U.length) (hv : 0 < V.length) (hmax : n ≤ 1000000) :
    Calls Tryz.prog 137 #[.slice (some ⟨g, o, none⟩) n c, .int .i64 (a : Int), .int .i64 (m : Int), .int .i64 (b : Int), .func (.func 46) #[] #[]] w (SymPost g o S P (U ++ V) Q w) :=
  sym_ok (U.length + V.length) g o n c S a m b P U V Q w hr ha hm hb hn hU hV hu hv hmax (Nat.le_refl _)
end Go.Proofs.YtpkkkhgmkndpdaaGreatDoor
namespace Go.Proofs.YtpkkkhgmkndpdaaGreatDoor
open Go Go.RowKit Go.Proofs
attribute [local go_sem ↓] Go.wp_at_zero Go.wp_at_succ
structure StAt (g o S n : Nat) (l d : List Ev) (w wr : World) : Prop where
  cls : Cls lessE l d
  row : Row wr g o S d
  keep : Keeps (fun k => k ≠ g) w wr
  len : d.length = n
theorem StAt.mid {g o S n : Nat} {l d : List Ev} {w wr wr' : World} (h : StAt g o S n l d w wr) {P X M Q : List Ev} (hd : d = P ++ X ++ Q) (hc : Cls lessE X M) (hr : Row wr' g o S (P ++ M ++ Q)) (hk : Keeps (fun k => k ≠ g) wr wr') : StAt g o S n l (P ++ M ++ Q) w wr' := by
  have h1 := h.cls
  rw [hd] at h1
  refine ⟨h1.trans (cls_mid hc), hr, h.keep.trans hk, ?_⟩
  rw [← h.len, hd]
  have := hc.len
  simp; omega
set_option maxRecDepth 100000 in
set_option maxHeartbeats 8000000 in
theorem stable_sort (g o n c S : Nat) (l : List Ev) (w : World) (hr : Row w g o S l) (hn : l.length = n) (hmax : n ≤ 100000) :
    Calls Tryz.prog 99 #[.slice (some ⟨g, o, none⟩) n c, .int .i64 (n : Int), .func (.func 46) #[] #[]] w (fun e w' => e = .returned (.tuple #[]) ∧ ∃ d, Srt lessE d ∧ StAt g o S n l d w w') := by
  have H0 := Lib.hid (show StAt g o S n l l w w from ⟨Cls.refl _, hr, Keeps.refl _ _, hn⟩)
  clear hr hn
  go_enter Tryz.func99, Tryz.ntmps99
  go_wp2_with fail
  go_loopw [7, 8] (fun av bv wr => ∃ (t A B : Nat) (d : List Ev), A = t * 20 ∧ B = A + 20 ∧ A ≤ n ∧ av = .int .i64 (A : Int) ∧ bv = .int .i64 (B : Int) ∧ Blk lessE 20 t d ∧ StAt g o S n l d w wr) (fun _ bv _ => n + 20 - (intOf bv).toNat)
  case atStart => exact ⟨0, 0, 20, l, rfl, rfl, Nat.zero_le _, rfl, rfl, fun _ h9 => by omega, H0.out⟩
  case round =>
    obtain ⟨t, A, B, d, hA, hB, hAn, rfl, rfl, hblk, hst⟩ := hrel
    have Hblk := Lib.hid hblk
    have Hst := Lib.hid hst
    have HA := Lib.hid hA
    have hdl := hst.len
    by_cases hBn : B ≤ n
    · have hd := seg_split d A 20
      have hXl : (seg d A 20).length = 20 := by rw [seg_len]; omega
      have hPl : (d.take A).length = A := by rw [List.length_take]; omega
      have C := Lib.hid (ins_sort g o n c S A B (d.take A) (seg d A 20) (d.drop (A + 20)) wr (by rw [← hd]; exact hst.row) hPl (by rw [hXl, hB]) (by rw [← hd]; exact hdl) (by omega))
      have Hd := Lib.hid hd
      have HXl := Lib.hid hXl
      have k1 : (B : Int) ≤ (n : Int) := by omega
      have Hbb := Lib.hid hB
      clear hd hXl hPl hblk hst hA hB
      go_wp2_with fail
      refine C.out.mono ?_
      rintro _ w2 ⟨rfl, M, m1, m2, m3, m4⟩
      have Hn := Lib.hid (show Blk lessE 20 (t + 1) (d.take A ++ M ++ d.drop (A + 20)) ∧ StAt g o S n l (d.take A ++ M ++ d.drop (A + 20)) w w2 from ⟨by
        have h9 := Hblk.out.step (M := M) (by rw [← HA.out, hdl]; have := Hbb.out; omega) (by rw [m2.len, HXl.out]) m1
        rw [← HA.out] at h9
        exact h9, Hst.out.mid Hd.out m2 m3 m4⟩)
      clear m1 m2 m3 m4 C
      go_wp2_with fail
      go_roundw
      case rel => exact ⟨t + 1, B, B + 20, _, by have := HA.out; have := Hbb.out; omega, rfl, hBn, rfl, by go_num, Hn.out.1, Hn.out.2⟩
      case measure => simp [intOf]; omega
    · have hd : d = d.take A ++ d.drop A ++ [] := by rw [List.append_nil, List.take_append_drop]
      have hPl : (d.take A).length = A := by rw [List.length_take]; omega
      have hXl : (d.drop A).length = n - A := by rw [List.length_drop, hdl]
      have C := Lib.hid (ins_sort g o n c S A n (d.take A) (d.drop A) [] wr (by rw [← hd]; exact hst.row) hPl (by rw [hXl]; omega) (by rw [← hd]; exact hdl) (by omega))
      have Hd := Lib.hid hd
      have HXl := Lib.hid hXl
      have k1 : ¬ (B : Int) ≤ (n : Int) := by omega
      have Hbb := Lib.hid hB
      clear hd hXl hPl hblk hst hA hB
      go_wp2_with fail
      refine C.out.mono ?_
      rintro _ w2 ⟨rfl, M, m1, m2, m3, m4⟩
      have Hn := Lib.hid (show (∀ s, Srt lessE (seg (d.take A ++ M) (s * 20) 20)) ∧ StAt g o S n l (d.take A ++ M) w w2 from ⟨by
        have h9 := Hblk.out.last (M := M) (by rw [← HA.out, hdl]; exact hAn) (by rw [← HA.out, hdl]; have := Hbb.out; omega) (by rw [m2.len, HXl.out, ← HA.out, hdl]) m1
        rw [← HA.out] at h9
        exact h9, by have h9 := Hst.out.mid Hd.out m2 m3 m4; simpa using h9⟩)
      generalize d.take A ++ M = D at *
      clear m1 m2 m3 m4 C Hd HXl Hbb Hblk Hst
      go_wp2_with fail
      go_loopw [6] (fun bv wr' => ∃ (bs : Nat) (d2 : List Ev), 0 < bs ∧ bs ≤ 2 * n + 20 ∧ bv = .int .i64 (bs : Int) ∧ (∀ s, Srt lessE (seg d2 (s * bs) bs)) ∧ StAt g o S n l d2 w wr') (fun bv _ => 2 * n + 40 - (intOf bv).toNat)
      case atStart => exact ⟨20, D, by omega, by omega, rfl, Hn.out.1, Hn.out.2⟩
      case round =>
        obtain ⟨bs, d2, hb0, hb1, rfl, hsg, hst2⟩ := hrel
        have Hst2 := Lib.hid hst2
        have Hsg := Lib.hid hsg
        have hd2 := hst2.len
        clear hst2 hsg
        by_cases hlt : bs < n
        · have hlt' : (bs : Int) < (n : Int) := by omega
          go_wp2_with fail
          go_loopw [7, 8] (fun av bv wr' => ∃ (t A B : Nat) (d3 : List Ev), A = t * (2 * bs) ∧ B = A + 2 * bs ∧ A ≤ n ∧ av = .int .i64 (A : Int) ∧ bv = .int .i64 (B : Int) ∧ Mrg lessE bs t d3 ∧ StAt g o S n l d3 w wr') (fun _ bv _ => 3 * n + 40 - (intOf bv).toNat)
          case atStart => exact ⟨0, 0, 2 * bs, d2, by omega, by omega, Nat.zero_le _, rfl, by go_num, Mrg.zero Hsg.out, Hst2.out⟩
          case round =>
            obtain ⟨t3, A3, B3, d3, hA3, hB3, hAn3, rfl, rfl, hmg, hst3⟩ := hrel
            have hd3 := hst3.len
            have hparts := hmg.parts
            rw [← hA3] at hparts
            have hPl : (d3.take A3).length = A3 := by rw [List.length_take]; omega
            have HA3 := Lib.hid hA3
            have HB3 := Lib.hid hB3
            have Hmg := Lib.hid hmg
            have Hst3 := Lib.hid hst3
            by_cases hBn : B3 ≤ n
            · have hd := seg_two d3 A3 bs bs
              have hUl : (seg d3 A3 bs).length = bs := by rw [seg_len]; omega
              have hVl : (seg d3 (A3 + bs) bs).length = bs := by rw [seg_len]; omega
              have C := sym_merge g o n c S A3 (A3 + bs) B3 (d3.take A3) (seg d3 A3 bs) (seg d3 (A3 + bs) bs) (d3.drop (A3 + bs + bs)) wr (by rw [← hd]; exact hst3.row) hPl (by rw [hUl]) (by rw [hVl]; omega) (by rw [← hd]; exact hd3) hparts.1 hparts.2 (by omega) (by omega) (by omega)
              rw [show ((A3 + bs : Nat) : Int) = (A3 : Int) + (bs : Int) by omega] at C
              have C := Lib.hid C
              have Hd := Lib.hid (show d3 = d3.take A3 ++ (seg d3 A3 bs ++ seg d3 (A3 + bs) bs) ++ d3.drop (A3 + 2 * bs) by rw [← List.append_assoc (d3.take A3), show A3 + 2 * bs = A3 + bs + bs by omega]; exact hd)
              have HUV := Lib.hid (show (seg d3 A3 bs ++ seg d3 (A3 + bs) bs).length = 2 * bs by rw [List.length_append, hUl, hVl]; omega)
              have k1 : (B3 : Int) ≤ (n : Int) := by omega
              clear hd hUl hVl hPl hparts hmg hst3 hA3 hB3
              go_wp2_with fail
              refine C.out.mono ?_
              rintro _ w2 ⟨rfl, M2, m1, m2, m3, m4⟩
              have Hn2 := Lib.hid (show Mrg lessE bs (t3 + 1) (d3.take A3 ++ M2 ++ d3.drop (A3 + 2 * bs)) ∧ StAt g o S n l (d3.take A3 ++ M2 ++ d3.drop (A3 + 2 * bs)) w w2 from ⟨by
                have h9 := Hmg.out.step (M := M2) (by rw [← HA3.out, hd3]; have := HB3.out; omega) (by rw [m2.len, HUV.out]) m1
                rw [← HA3.out] at h9
                exact h9, Hst3.out.mid Hd.out m2 (by rw [show A3 + 2 * bs = A3 + bs + bs by omega]; exact m3) m4⟩)
              clear m1 m2 m3 m4 C
              go_wp2_with fail
              go_roundw
              case rel => exact ⟨t3 + 1, B3, B3 + 2 * bs, _, by have := HA3.out; have := HB3.out; rw [Nat.add_mul, Nat.one_mul]; omega, rfl, hBn, rfl, by go_num, Hn2.out.1, Hn2.out.2⟩
              case measure => simp [intOf]; omega
            · have k1 : ¬ (B3 : Int) ≤ (n : Int) := by omega
              by_cases hm3 : A3 + bs < n
              · have hd : d3 = d3.take A3 ++ seg d3 A3 bs ++ d3.drop (A3 + bs) ++ [] := by rw [List.append_nil]; exact seg_split d3 A3 bs
                have hUl : (seg d3 A3 bs).length = bs := by rw [seg_len]; omega
                have hVl : (d3.drop (A3 + bs)).length = n - (A3 + bs) := by rw [List.length_drop, hd3]
                have hVs : Srt lessE (d3.drop (A3 + bs)) := by have h9 := hparts.2; rw [seg_rest (by omega)] at h9; exact h9
                have C := sym_merge g o n c S A3 (A3 + bs) n (d3.take A3) (seg d3 A3 bs) (d3.drop (A3 + bs)) [] wr (by rw [← hd]; exact hst3.row) hPl (by rw [hUl]) (by rw [hVl]; omega) (by rw [← hd]; exact hd3) hparts.1 hVs (by omega) (by omega) (by omega)
                rw [show ((A3 + bs : Nat) : Int) = (A3 : Int) + (bs : Int) by omega] at C
                have C := Lib.hid C
                have Hd := Lib.hid (show d3 = d3.take A3 ++ (seg d3 A3 bs ++ d3.drop (A3 + bs)) ++ [] by rw [← List.append_assoc (d3.take A3)]; exact hd)
                have HUV := Lib.hid (show (seg d3 A3 bs ++ d3.drop (A3 + bs)).length = n - A3 by rw [List.length_append, hUl, hVl]; omega)
                have k2 : (A3 : Int) + (bs : Int) < (n : Int) := by omega
                clear hd hUl hVl hVs hPl hparts hmg hst3 hA3 hB3
                go_wp2_with fail
                refine C.out.mono ?_
                rintro _ w2 ⟨rfl, M2, m1, m2, m3, m4⟩
                have Hn2 := Lib.hid (show (∀ s, Srt lessE (seg (d3.take A3 ++ M2) (s * (2 * bs)) (2 * bs))) ∧ StAt g o S n l (d3.take A3 ++ M2) w w2 from ⟨by
                  have h9 := Hmg.out.tail (M := M2) (by rw [← HA3.out, hd3]; have := HB3.out; omega) (by rw [← HA3.out, hd3]; exact hAn3) (by rw [m2.len, HUV.out, ← HA3.out, hd3]) m1
                  rw [← HA3.out] at h9
                  exact h9, by have h9 := Hst3.out.mid Hd.out m2 m3 m4; simpa using h9⟩)
                clear m1 m2 m3 m4 C
                go_wp2_with fail
                go_roundw
                case rel => exact ⟨2 * bs, _, by omega, by omega, by congr 1; omega, Hn2.out.1, Hn2.out.2⟩
                case measure => simp [intOf]; omega
              · have k2 : ¬ (A3 : Int) + (bs : Int) < (n : Int) := by omega
                have Hn2 := Lib.hid (hmg.last (by rw [← hA3, hd3]; omega) (by rw [← hA3, hd3]; omega))
                clear hPl hparts hmg hst3 hA3 hB3
                go_wp2_with fail
                go_roundw
                case rel => exact ⟨2 * bs, _, by omega, by omega, by congr 1; omega, Hn2.out, Hst3.out⟩
                case measure => simp [intOf]; omega
        · have hlt' : ¬ (bs : Int) < (n : Int) := by omega
          have Hend := Lib.hid (show ∃ d, Srt lessE d ∧ StAt g o S n l d w wr from ⟨d2, by
            have h9 := Hsg.out 0
            rw [Nat.zero_mul, seg_all (by omega)] at h9
            exact h9, Hst2.out⟩)
          go_wp2_with fail
          exact ⟨rfl, .tuple #[], by simp [results, Tryz.results99], rfl, Hend.out⟩
end Go.Proofs.YtpkkkhgmkndpdaaGreatDoor
namespace Go.Proofs.YtpkkkhgmkndpdaaGreatDoor
open Go Go.RowKit Go.Proofs
attribute [local go_sem ↓] Go.wp_at_zero Go.wp_at_succ
set_option maxRecDepth 100000 in
set_option maxHeartbeats 2000000 in
theorem ins_zero (A : Option Addr) (c : Nat) (w : World) :
    Calls Tryz.prog 136 #[.slice A 0 c, .int .i64 0, .int .i64 0, .func (.func 46) #[] #[]] w fun e w' => e = .returned (.tuple #[]) ∧ w = w' := by
  go_enter Tryz.func136, Tryz.ntmps136
  go_wp2_with fail
  go_loopw [8] (fun i wr => i = .int .i64 1 ∧ wr = w) (fun _ _ => 0)
  case atStart => exact ⟨rfl, rfl⟩
  case round =>
    obtain ⟨rfl, rfl⟩ := hrel
    go_wp2_with fail
    exact ⟨rfl, .tuple #[], by simp [results, Tryz.results136], rfl, rfl⟩
set_option maxRecDepth 100000 in
set_option maxHeartbeats 2000000 in
theorem stable_zero (A : Option Addr) (c : Nat) (w : World) :
    Calls Tryz.prog 99 #[.slice A 0 c, .int .i64 0, .func (.func 46) #[] #[]] w fun e w' => e = .returned (.tuple #[]) ∧ w = w' := by
  have C := Lib.hid (ins_zero A c w)
  go_enter Tryz.func99, Tryz.ntmps99
  go_wp2_with fail
  go_loopw [7, 8] (fun av bv wr => av = .int .i64 0 ∧ bv = .int .i64 20 ∧ wr = w) (fun _ _ _ => 0)
  case atStart => exact ⟨rfl, rfl, rfl⟩
  case round =>
    obtain ⟨rfl, rfl, rfl⟩ := hrel
    go_wp2_with fail
    refine C.out.mono ?_
    rintro _ _ ⟨rfl, rfl⟩
    go_wp2_with fail
    go_loopw [6] (fun bv wr' => bv = .int .i64 20 ∧ wr' = wr) (fun _ _ => 0)
    case atStart => exact ⟨rfl, rfl⟩
    case round =>
      obtain ⟨rfl, rfl⟩ := hrel
      go_wp2_with fail
      exact ⟨rfl, .tuple #[], by simp [results, Tryz.results99], rfl, rfl⟩
set_option maxRecDepth 100000 in
set_option maxHeartbeats 2000000 in
theorem sort_stable (g o n c S : Nat) (l : List Ev) (w : World) (hr : Row w g o S l) (hn : l.length = n) (hmax : n ≤ 100000) :
    Calls Tryz.prog 76 #[.slice (some ⟨g, o, none⟩) n c, .func (.func 46) #[] #[]] w (fun e w' => e = .returned (.tuple #[]) ∧ StAt g o S n l (sortL lessE l) w w') := by
  have C := Lib.hid (stable_sort g o n c S l w hr hn hmax)
  clear hr hn
  go_enter Tryz.func76, Tryz.ntmps76
  go_wp2_with fail
  refine C.out.mono ?_
  rintro _ w2 ⟨rfl, d, hd, hst⟩
  have Hend := Lib.hid (show StAt g o S n l (sortL lessE l) w w2 by rw [← sortL_eq lessE_swo hd hst.cls]; exact hst)
  clear hd hst
  go_wp2_with fail
  exact ⟨rfl, .tuple #[], by simp [results, Tryz.results76], rfl, Hend.out⟩
set_option maxRecDepth 100000 in
set_option maxHeartbeats 2000000 in
theorem sort_zero (A : Option Addr) (c : Nat) (w : World) :
    Calls Tryz.prog 76 #[.slice A 0 c, .func (.func 46) #[] #[]] w (fun e w' => e = .returned (.tuple #[]) ∧ w = w') := by
  have C := Lib.hid (stable_zero A c w)
  go_enter Tryz.func76, Tryz.ntmps76
  go_wp2_with fail
  refine C.out.mono ?_
  rintro _ _ ⟨rfl, rfl⟩
  go_wp2_with fail
  exact ⟨rfl, .tuple #[], by simp [results, Tryz.results76], rfl, rfl⟩
end Go.Proofs.YtpkkkhgmkndpdaaGreatDoor
namespace Go.Proofs.YtpkkkhgmkndpdaaGreatDoor
open Go Go.RowKit Go.Proofs
attribute [local go_sem ↓] Go.wp_at_zero Go.wp_at_succ
theorem Own.new_nil {α : Type} {R : Rep α} {t : TypeId} {ok : Nat → Prop} {w : World} {g base : Nat} (hg : w.heap[g]? = some (.cells #[] t)) (hb : base ≤ g) : Own R t ok w base (.slice (some ⟨g, 0, none⟩) 0 0) 0 [] :=
  ⟨rfl, [], ⟨by simp, .inr ⟨g, 0, #[], rfl, hb, hg, Nat.le_refl _, by unfold maxLen; omega, by simp, by simp⟩⟩, rfl, fun _ _ _ h => (by simp at h)⟩
theorem Own.row {ok : Nat → Prop} {w : World} {base g n c : Nat} {l : List Ev} (h : Own evR 30 ok w base (.slice (some ⟨g, 0, none⟩) n c) n l) : ∃ S, Row w g 0 S l := by
  have hp := h.parts
  have hs := h.2.choose_spec
  generalize h.2.choose = xss at *
  obtain ⟨ho, hx, hr⟩ := hs
  rcases ho.2 with ⟨hv, _⟩ | ⟨g', cap, cur, hv, hb, hg, hnc, hcm, hcs, htk⟩
  · injection hv with hv; cases hv
  · injection hv with h1 _ h2
    injection h1 with h1
    injection h1 with h1 _ _
    subst h1
    refine ⟨cur.size, cur, hg, rfl, fun k e hk j v hj => ?_⟩
    have hkl : k < xss.length := by rw [hx, ← h.1]; exact (List.getElem?_eq_some_iff.1 hk).1
    have hxs : xss[k] = evL e := hr k e xss[k] hk (List.getElem?_eq_getElem hkl)
    have h9 := flatten_at xss 8 k (evL e) hp (by rw [List.getElem?_eq_getElem hkl, hxs]) j v hj
    have h8 := ho.cells (g := g) rfl _ v h9
    rw [ad_add] at h8
    simp only [World.cell?, hg] at h8
    simpa using h8
theorem Row.sl {ok : Nat → Prop} {w : World} {g o S n : Nat} {d : List Ev} (h : Row w g o S d) (hn : d.length = n) (ho : ok g) : Sl evR ok w (some ⟨g, o, none⟩) n d :=
  ⟨hn, fun _ => ⟨g, o, rfl, h.lt, ho, fun k a ha => ⟨evL a, rfl, fun j u hu => by
    obtain ⟨C, hg, _, hc⟩ := h
    exact blk_cell hg _ (hc k a ha j u hu)⟩⟩⟩
theorem info_apiEv : (Tryz.prog.info? 30).map (fun i => (i.zero, i.size, i.bytes)) = some (some (.agg #[.string ⟨#[]⟩, .int .i64 0, .int .i64 0, .int .i64 0, .string ⟨#[]⟩, .string ⟨#[]⟩, .int .i64 0, .string ⟨#[]⟩]), 8, 96) := by kernel_rfl
theorem info_part3 {t : TypeId} {z : Option Value} {a b : Nat} (h : (Tryz.prog.info? t).map (fun i => (i.zero, i.size, i.bytes)) = some (z, a, b)) : ∃ i, Tryz.prog.info? t = some i ∧ i.zero = z ∧ i.size = a ∧ i.bytes = b := by
  cases hi : Tryz.prog.info? t with
  | none => rw [hi] at h; simp at h
  | some i => rw [hi] at h; simp at h; exact ⟨i, rfl, h.1, h.2.1, h.2.2⟩
set_option maxRecDepth 100000 in
set_option maxHeartbeats 2000000 in
theorem evs_Clone (A : Option Addr) (n c : Nat) (l : List Ev) (ok : Nat → Prop) (w : World) (hs : Sl evR ok w A n l) (hn : n ≤ 100000) :
    Calls Tryz.prog 33 #[.slice A n c] w fun e w' => ∃ A' c', e = .returned (.slice A' n c') ∧ Own evR 30 (fun _ => True) w' w.heap.size (.slice A' n c') n l ∧ Ext w w' := by
  obtain ⟨i0, hi0, hz0, hz1, hz2⟩ := info_part3 info_apiEv
  have Hs := Lib.hid hs
  have hl := hs.1
  cases A with
  | none =>
    have hn0 : n = 0 := by
      rcases Nat.eq_zero_or_pos n with h | h
      · exact h
      · obtain ⟨_, _, h9, _⟩ := hs.2 h; cases h9
    subst hn0
    have hl0 : l = [] := List.eq_nil_of_length_eq_zero hl
    subst hl0
    clear hs
    have hq := Go.Lib.run_eql_slice_nil (P := Tryz.prog) w 22 30 none 0 c 0 0 Tryz.underlying22
    go_enter Tryz.func33, Tryz.ntmps33
    go_wp2_with fail
    go_ret
    exact ⟨none, 0, rfl, Own.nil_, Keeps.refl _ _⟩
  | some p =>
    clear hs
    have hq := Go.Lib.run_eql_slice_nil (P := Tryz.prog) w 22 30 (some p) n c 0 0 Tryz.underlying22
    go_enter Tryz.func33, Tryz.ntmps33
    go_wp2_with (at_builtin; go_loud (refine wpList_append_Own (ok := fun _ => True) (R := evR) _ rfl (.tmp 5) (.tmp 6) 22 rfl 30 i0 _ 96 w.heap.size Tryz.underlying22 hi0 hz0 hz1 hz2 rfl (by decide) rfl (Own.new_nil (blk_new _ _) (Nat.le_refl _)) _ n c l rfl (Sl.flat_src evR_flat (Hs.out.alloc _)) (by omega) (by decide) (by simp) ?_; intro A2 c2 w2 hown2 hg2 hat2; have Hext := Lib.hid (show Ext w w2 from Keeps.grown (Keeps.alloc (Keeps.refl _ _) _) hg2 (fun g hg hl => by have h9 : some w.heap.size = some g := hg; injection h9 with h9; omega)); have Hown2 := Lib.hid hown2; clear hown2 hg2 hat2))
    go_ret
    have h9 := Hown2.out
    simp only [Nat.zero_add, List.nil_append] at h9
    exact ⟨A2, c2, by simp, h9, Hext.out⟩
end Go.Proofs.YtpkkkhgmkndpdaaGreatDoor
namespace Go.Proofs.YtpkkkhgmkndpdaaGreatDoor
open Go Go.RowKit Go.Proofs
attribute [local go_sem ↓] Go.wp_at_zero Go.wp_at_succ
/-- A row of events in a block of its own, no older than base. -/
def EvsAt (base : Nat) (w : World) (A : Option Addr) (n : Nat) (l : List Ev) : Prop :=
  l.length = n ∧ (n = 0 ∧ A = none ∨ ∃ g S, A = some ⟨g, 0, none⟩ ∧ base ≤ g ∧ Row w g 0 S l)
theorem EvsAt.sl {base : Nat} {w : World} {A : Option Addr} {n : Nat} {l : List Ev} (h : EvsAt base w A n l) : Sl evR (fun k => base ≤ k) w A n l := by
  rcases h.2 with ⟨h0, _⟩ | ⟨g, S, rfl, hb, hr⟩
  · have h1 := h.1
    subst h0
    have : l = [] := List.eq_nil_of_length_eq_zero h1
    subst this
    exact Sl.nil_
  · exact hr.sl h.1 hb
theorem EvsAt.ext {base : Nat} {w w' : World} {A : Option Addr} {n : Nat} {l : List Ev} (h : EvsAt base w A n l) (hx : Ext w w') : EvsAt base w' A n l :=
  ⟨h.1, h.2.imp id fun ⟨g, S, e, hb, hr⟩ => ⟨g, S, e, hb, hr.ext hx⟩⟩
theorem EvsAt.le {base base' : Nat} {w : World} {A : Option Addr} {n : Nat} {l : List Ev} (h : EvsAt base w A n l) (hx : base' ≤ base) : EvsAt base' w A n l :=
  ⟨h.1, h.2.imp id fun ⟨g, S, e, hb, hr⟩ => ⟨g, S, e, Nat.le_trans hx hb, hr⟩⟩
theorem Own.evs {ok : Nat → Prop} {w : World} {base n c : Nat} {A : Option Addr} {l : List Ev} (h : Own evR 30 ok w base (.slice A n c) n l) : EvsAt base w A n l := by
  refine ⟨h.1, ?_⟩
  have h2 := h
  rcases h.2.choose_spec.1.2 with ⟨hv, h0⟩ | ⟨g, cap, cur, hv, hb, _⟩
  · injection hv with h1 _ _
    exact .inl ⟨h0, h1⟩
  · injection hv with h1 _ h3
    subst h1
    obtain ⟨S, hr⟩ := h2.row
    exact .inr ⟨g, S, rfl, hb, hr⟩
set_option maxRecDepth 100000 in
set_option maxHeartbeats 2000000 in
theorem evs_Clip (A : Option Addr) (n c : Nat) (w : World) (hc : n ≤ c) :
    Calls Tryz.prog 77 #[.slice A n c] w fun e w' => e = .returned (.slice A n n) ∧ w = w' := by
  have i1 : (n : Int) ≤ (c : Int) := by omega
  have i0 : (0 : Int) ≤ (n : Int) := by omega
  go_enter Tryz.func77, Tryz.ntmps77
  go_wp2_with fail
  go_ret
  exact ⟨by simp, rfl⟩
set_option maxRecDepth 100000 in
set_option maxHeartbeats 2000000 in
theorem ev_Sort (A : Option Addr) (n c : Nat) (l : List Ev) (ok : Nat → Prop) (w : World) (hs : Sl evR ok w A n l) (hn : n ≤ 100000) :
    Calls Tryz.prog 48 #[.slice A n c] w fun e w' => ∃ A', e = .returned (.slice A' n n) ∧ EvsAt w.heap.size w' A' n (sortL lessE l) ∧ Ext w w' := by
  have C1 := Lib.hid (evs_Clone A n c l ok w hs hn)
  have Hl := Lib.hid hs.1
  clear hs
  go_enter Tryz.func48, Tryz.ntmps48
  go_wp2_with fail
  refine C1.out.mono ?_
  rintro _ w1 ⟨A1, c1, rfl, hown, hx1⟩
  have hcap := hown.cap
  have hev := hown.evs
  have Hx1 := Lib.hid hx1
  clear hown hx1
  rcases hev.2 with ⟨h0, rfl⟩ | ⟨g, S, rfl, hb, hr⟩
  · subst h0
    have hl0 : l = [] := List.eq_nil_of_length_eq_zero Hl.out
    subst hl0
    clear hev
    go_wp2_with fail
    refine (sort_zero none c1 w1).mono ?_
    rintro _ _ ⟨rfl, rfl⟩
    go_wp2_with fail
    refine (evs_Clip none 0 c1 w1 (Nat.zero_le _)).mono ?_
    rintro _ _ ⟨rfl, rfl⟩
    go_wp2_with fail
    go_ret
    exact ⟨none, rfl, ⟨rfl, .inl ⟨rfl, rfl⟩⟩, Hx1.out⟩
  · have C2 := Lib.hid (sort_stable g 0 n c1 S l w1 hr Hl.out hn)
    have Hb := Lib.hid hb
    clear hev hr hb
    go_wp2_with fail
    refine C2.out.mono ?_
    rintro _ w2 ⟨rfl, hst⟩
    have Hst := Lib.hid hst
    clear hst
    go_wp2_with fail
    refine (evs_Clip (some ⟨g, 0, none⟩) n c1 w2 hcap).mono ?_
    rintro _ _ ⟨rfl, rfl⟩
    go_wp2_with fail
    go_ret
    exact ⟨some ⟨g, 0, none⟩, rfl, ⟨Hst.out.len, .inr ⟨g, S, rfl, Hb.out, Hst.out.row⟩⟩, Keeps.then_ Hx1.out Hst.out.keep (fun i hi _ e => by have := Hb.out; omega)⟩
end Go.Proofs.YtpkkkhgmkndpdaaGreatDoor
namespace Go.Proofs.YtpkkkhgmkndpdaaGreatDoor
open Go Go.RowKit Go.Proofs
attribute [local go_sem ↓] Go.wp_at_zero Go.wp_at_succ
/-- One is put behind those that aren't behind it. -/
theorem ins_sorted {l : List Ev} {k j : Nat} {x : Ev} (hx : l[k]? = some x) (hgt : ∀ y ∈ (sortL lessE (l.take k)).drop j, lessE x y = true) (hle : ∀ z, ((sortL lessE (l.take k)).take j).getLast? = some z → lessE x z = false) :
    (sortL lessE (l.take k)).take j ++ [x] ++ (sortL lessE (l.take k)).drop j = sortL lessE (l.take (k + 1)) := by
  obtain ⟨h1, h2⟩ := sortL_ok lessE_swo (l.take k)
  have h3 : (sortL lessE (l.take k)).take j ++ (sortL lessE (l.take k)).drop j = sortL lessE (l.take k) := List.take_append_drop _ _
  rw [← h3] at h1
  obtain ⟨i1, i2⟩ := ins_at lessE_swo h1 hgt hle
  rw [h3] at i2
  rw [List.append_assoc, List.singleton_append]
  refine sortL_eq lessE_swo i1 ?_
  rw [List.take_add_one, hx]
  exact (h2.app (Cls.refl [x])).trans i2
def Ev8 (w : World) (b p : Nat) (e : Ev) : Prop := w.cell? ⟨b, p, none⟩ = some (.string e.src) ∧ w.cell? ⟨b, p + 1, none⟩ = some (.int .i64 e.num) ∧ w.cell? ⟨b, p + 2, none⟩ = some (.int .i64 e.tick) ∧ w.cell? ⟨b, p + 3, none⟩ = some (.int .i64 e.kind) ∧ w.cell? ⟨b, p + 4, none⟩ = some (.string e.person) ∧ w.cell? ⟨b, p + 5, none⟩ = some (.string e.item) ∧ w.cell? ⟨b, p + 6, none⟩ = some (.int .i64 e.value) ∧ w.cell? ⟨b, p + 7, none⟩ = some (.string e.text)
theorem ev8_ext {w w' : World} (hx : Ext w w') {b p : Nat} {e : Ev} (hb : b < w.heap.size) (h : Ev8 w b p e) : Ev8 w' b p e := by
  have hc := fun o => hx.cell (p := ⟨b, o, none⟩) hb trivial
  obtain ⟨h0, h1, h2, h3, h4, h5, h6, h7⟩ := h
  exact ⟨(hc _).trans h0, (hc _).trans h1, (hc _).trans h2, (hc _).trans h3, (hc _).trans h4, (hc _).trans h5, (hc _).trans h6, (hc _).trans h7⟩
theorem blk_new_ (w : World) (o : Obj) {g : Nat} (h : w.heap.size = g) : (w.alloc o).heap[g]? = some o := h ▸ blk_new w o
theorem Own.le {α : Type} {R : Rep α} {t : TypeId} {ok : Nat → Prop} {w : World} {base base' : Nat} {v : Value} {n : Nat} {l : List α} (h : Own R t ok w base v n l) (hb : base' ≤ base) : Own R t ok w base' v n l := by
  obtain ⟨hl, xss, ho, hx, hr⟩ := h
  refine ⟨hl, xss, ⟨ho.1, ?_⟩, hx, hr⟩
  rcases ho.2 with hn | ⟨g, cap, cur, hv, hbg, r⟩
  · exact .inl hn
  · exact .inr ⟨g, cap, cur, hv, Nat.le_trans hb hbg, r⟩
theorem Own.evSl {ok : Nat → Prop} {w : World} {base n c : Nat} {A : Option Addr} {l : List Ev} (h : Own evR 30 ok w base (.slice A n c) n l) : Sl evR (fun k => base ≤ k) w A n l := (Own.evs h).sl
set_option maxRecDepth 100000 in
set_option maxHeartbeats 4000000 in
theorem ref_Sort (A : Option Addr) (n c : Nat) (l : List Ev) (ok : Nat → Prop) (w : World) (hs : Sl evR ok w A n l) (hn : n ≤ 100000) :
    Calls Tryz.prog 37 #[.slice A n c] w fun e w' => ∃ B cb, e = .returned (.slice B n cb) ∧ n ≤ cb ∧ EvsAt w.heap.size w' B n (sortL lessE l) ∧ Ext w w' := by
  obtain ⟨i0, hi0, hz0, hz1, hz2⟩ := info_part3 info_apiEv
  have Hs := Lib.hid hs
  have Hl := Lib.hid hs.1
  clear hs
  go_enter Tryz.func37, Tryz.ntmps37
  go_wp2_with fail
  go_loopw [3, 4] (fun v i wr => ∃ (k : Nat) (B : Option Addr) (cb : Nat), k ≤ n ∧ i = .int .i64 k ∧ v = .slice B k cb ∧ Own evR 30 (fun _ => True) wr w.heap.size (.slice B k cb) k (sortL lessE (l.take k)) ∧ Ext w wr) (fun _ i _ => n - (intOf i).toNat)
  case atStart => exact ⟨0, _, 0, Nat.zero_le _, rfl, rfl, Own.new_nil (blk_new _ _) (Nat.le_refl _), (Keeps.refl _ _).alloc _⟩
  case round =>
    obtain ⟨k, B, cb, hk, rfl, rfl, hown, hx⟩ := hrel
    have Hown := Lib.hid hown
    have Hx := Lib.hid hx
    have hsz := hx.size
    have hcap := hown.cap
    have Hsl := Lib.hid hown.evSl
    have Hdl := Lib.hid hown.1
    clear hown hx
    by_cases hlt : k < n
    · obtain ⟨b, o, x, rfl, hb, _, he, d0, d1, d2, d3, d4, d5, d6, d7⟩ := (Hs.out.ext Hx.out).ev hlt
      have He := Lib.hid he
      have Hins := Lib.hid (fun j => ins_sorted (j := j) he)
      have i0' : (0 : Int) ≤ (k : Int) := by omega
      have i1' : (k : Int) < (n : Int) := by omega
      clear he
      obtain ⟨d, hd⟩ : ∃ d, d = sortL lessE (l.take k) := ⟨_, rfl⟩
      rw [← hd] at Hown Hsl Hins Hdl
      clear hd
      obtain ⟨V, hV⟩ : ∃ V, V = wr := ⟨_, rfl⟩
      rw [← hV] at Hown Hsl Hx hsz hb d0 d1 d2 d3 d4 d5 d6 d7 ⊢
      clear hV
      go_wp2_with fail
      go_loopw [5] (fun i wr => ∃ j : Nat, j ≤ k ∧ i = .int .i64 j ∧ (∀ y ∈ d.drop j, lessE x y = true) ∧ Ext V wr) (fun i _ => (intOf i).toNat)
      case atStart => exact ⟨k, Nat.le_refl _, rfl, by rw [List.drop_eq_nil_of_le (Nat.le_of_eq Hdl.out)]; exact fun _ h => (by cases h), Keeps.refl _ _⟩
      case round =>
        obtain ⟨j, hj, rfl, hgt, hx2⟩ := hrel
        have Hgt := Lib.hid hgt
        have Hx2 := Lib.hid hx2
        clear hgt hx2
        have hkn : k ≤ 100000 := by omega
        have j0 : (0 : Int) ≤ (j : Int) := by omega
        have j1 : (j : Int) ≤ (cb : Int) := by omega
        have j2 : (j : Int) ≤ (k : Int) := by omega
        rcases Nat.eq_zero_or_pos j with hj0 | hj0
        · have hj0' : decide (0 < (j : Int)) = false := by simp; omega
          go_upto_region 6 with fail
          refine wp_region_ext wr (Keeps.refl _ _) (by kernel_rfl) (by kernel_rfl) ?_
          repeat (go_big_quiet_step (fail))
          refine wpQuiet_nil ?_
          rintro _ ⟨y, rfl⟩
          obtain ⟨Z, hZ⟩ : ∃ Z, Z = y.w := ⟨_, rfl⟩
          have HZ := Lib.hid (show Ext V Z by rw [hZ]; exact Hx2.out.trans y.h)
          rw [← hZ]
          have Hle := Lib.hid (show ∀ z, (d.take j).getLast? = some z → lessE x z = false from fun z hz => by rw [hj0] at hz; simp at hz)
          clear hZ hj0
          have HslZ := Lib.hid (Hsl.out.ext HZ.out)
          have DZ := Lib.hid (ev8_ext HZ.out hb ⟨d0, d1, d2, d3, d4, d5, d6, d7⟩)
          have HbZ := Lib.hid (Nat.lt_of_lt_of_le hb HZ.out.size)
          have HwZ := Lib.hid Hx.out
          have hzz := HZ.out.size
          have Hfin := Lib.hid (fun (W : World) (B7 : Option Addr) (c7 : Nat) (h7 : j + 1 + (k - j) = k + 1) (h : Own evR 30 (fun _ => True) W w.heap.size (.slice B7 (j + 1 + (k - j)) c7) (j + 1 + (k - j)) (d.take j ++ [x] ++ d.drop j)) => show Own evR 30 (fun _ => True) W w.heap.size (.slice B7 (k + 1) c7) (k + 1) (sortL lessE (l.take (k + 1))) by rw [h7, Hins.out j Hgt.out Hle.out] at h; exact h)
          have Hcut := Lib.hid (HslZ.out.cut (k := j) (cap := cb) hj hcap)
          clear d0 d1 d2 d3 d4 d5 d6 d7
          obtain ⟨f0, f1, f2, f3, f4, f5, f6, f7⟩ := DZ.out
          have hbZ := HbZ.out
          go_upto_region 8 with fail
          go_cut [6] (fun s6 wc => ∃ B6 c6, s6 = .slice B6 (j + 1) c6 ∧ Own evR 30 (fun _ => True) wc Z.heap.size (.slice B6 (j + 1) c6) (j + 1) (d.take j ++ [x]) ∧ Ext Z wc)
          case first =>
            go_region_law (first | (refine step_append_Own (ok := fun _ => True) (R := evR) _ (by rfl) (.tmp 32) (.tmp 35) 22 (by rfl) 30 i0 _ 96 Z.heap.size Tryz.underlying22 hi0 hz0 hz1 hz2 rfl (by decide) (by rfl) (Own.new_nil (by first | exact blk_new _ _ | exact blk_old (blk_new _ _) _ | exact blk_new_ _ _ (by simp) | exact blk_old (blk_new_ _ _ (by simp)) _) (by first | omega | (simp; done) | (simp; omega))) _ j cb (d.take j) (by rfl) (Sl.flat_src evR_flat ((HslZ.out.to_ hj).ext (by repeat (first | with_reducible exact Keeps.refl _ _ | with_reducible refine Keeps.drew ?_ | with_reducible refine Keeps.drewN ?_ _ | with_reducible refine Keeps.alloc ?_ _)))) (by omega) (by decide) (by first | omega | (simp; done) | (simp; omega)) ?_; intro A5 c5 w5 hown5 hg5 hat5; simp only [Nat.zero_add, List.nil_append] at hown5 hg5 hat5; have hx5 : Ext Z w5 := Keeps.grown (by repeat (first | with_reducible exact Keeps.refl _ _ | with_reducible refine Keeps.drew ?_ | with_reducible refine Keeps.drewN ?_ _ | with_reducible refine Keeps.alloc ?_ _)) hg5 (fun g hg hl => by simp [Value.ownBlock] at hg; omega); obtain ⟨e0, e1, e2, e3, e4, e5, e6, e7⟩ := ev8_ext hx5 HbZ.out DZ.out; have hb5 := Nat.lt_of_lt_of_le HbZ.out hx5.size; have hz5 := hx5.size) | (refine step_append_Own (ok := fun _ => True) (R := evR) _ (by rfl) (.tmp 36) (.tmp 41) 22 (by rfl) 30 i0 _ 96 Z.heap.size Tryz.underlying22 hi0 hz0 hz1 hz2 rfl (by decide) (by rfl) (hown5.ext (by repeat (first | with_reducible exact Keeps.refl _ _ | with_reducible refine Keeps.drew ?_ | with_reducible refine Keeps.drewN ?_ _ | with_reducible refine Keeps.alloc ?_ _))) _ 1 1 [x] (by rfl) (Srcs.one_new rfl (by first | exact blk_new _ _ | exact (hg5.block _ (by first | omega | (simp; done) | (simp; omega)) (by simp [Value.ownBlock])).trans (by first | exact blk_new _ _ | exact blk_old (blk_new _ _) _ | exact blk_new_ _ _ (by simp) | exact blk_old (blk_new_ _ _ (by simp)) _)) rfl) (by omega) (by decide) (by first | omega | (simp; done) | (simp; omega)) ?_; intro A6 c6 w6 hown6 hg6 hat6; have hx6 : Ext Z w6 := Keeps.grown (by repeat (first | with_reducible exact hx5 | with_reducible exact Keeps.refl _ _ | with_reducible refine Keeps.drew ?_ | with_reducible refine Keeps.drewN ?_ _ | with_reducible refine Keeps.alloc ?_ _)) hg6 (fun g hg hl => by have := (hown5.lt g hg).1; omega)))
            all_goals
              go_wp2_with fail
              go_meet
              exact ⟨A6, c6, rfl, hown6, hx6⟩
          case rest =>
            obtain ⟨A6, c6, hv6, hown6, hx6⟩ := hcut
            obtain ⟨w6, hw6⟩ : ∃ w6, w6 = wc := ⟨_, rfl⟩
            rw [← hw6] at hown6 hx6 ⊢
            subst hv6
            have Hown6 := Lib.hid hown6
            have Hx6 := Lib.hid hx6
            have hz6 := hx6.size
            clear hown6 hx6 hw6 f0 f1 f2 f3 f4 f5 f6 f7
            by_cases hcb : cb = j
            · rw [if_pos hcb] at Hcut
              (go_wp2_with (at_builtin; refine wpList_append_Own (ok := fun _ => True) (R := evR) _ rfl (.tmp 43) (.tmp 46) 22 rfl 30 i0 _ 96 Z.heap.size Tryz.underlying22 hi0 hz0 hz1 hz2 rfl (by decide) rfl Hown6.out _ (k - j) _ (d.drop j) rfl (Sl.flat_src evR_flat (Hcut.out.ext Hx6.out)) (by omega) (by decide) (by omega) ?_; intro A7 c7 w7 hown7 hg7 hat7; have Hown7 := Lib.hid hown7; have Hx7 := Lib.hid (show Ext Z w7 from Keeps.grown Hx6.out hg7 (fun g hg hl => by have := (Hown6.out.lt g hg).1; omega)); clear hown7 hg7 hat7); go_roundw; (case rel => exact ⟨k + 1, A7, c7, by omega, by go_num, by congr 1; omega, Hfin.out _ _ _ (by omega) (Own.le Hown7.out (Nat.le_trans HwZ.out.size hzz)), HwZ.out.trans (HZ.out.trans Hx7.out)⟩); (case measure => (simp [intOf]; omega)))
            · rw [if_neg hcb] at Hcut
              simp only [show evR.size = 8 from rfl] at Hcut
              (go_wp2_with (at_builtin; refine wpList_append_Own (ok := fun _ => True) (R := evR) _ rfl (.tmp 43) (.tmp 46) 22 rfl 30 i0 _ 96 Z.heap.size Tryz.underlying22 hi0 hz0 hz1 hz2 rfl (by decide) rfl Hown6.out _ (k - j) _ (d.drop j) rfl (Sl.flat_src evR_flat (Hcut.out.ext Hx6.out)) (by omega) (by decide) (by omega) ?_; intro A7 c7 w7 hown7 hg7 hat7; have Hown7 := Lib.hid hown7; have Hx7 := Lib.hid (show Ext Z w7 from Keeps.grown Hx6.out hg7 (fun g hg hl => by have := (Hown6.out.lt g hg).1; omega)); clear hown7 hg7 hat7); go_roundw; (case rel => exact ⟨k + 1, A7, c7, by omega, by go_num, by congr 1; omega, Hfin.out _ _ _ (by omega) (Own.le Hown7.out (Nat.le_trans HwZ.out.size hzz)), HwZ.out.trans (HZ.out.trans Hx7.out)⟩); (case measure => (simp [intOf]; omega)))
        · obtain ⟨z, hz⟩ : ∃ z, d[j - 1]? = some z := ⟨_, List.getElem?_eq_getElem (by have := Hdl.out; omega)⟩
          obtain ⟨bz, oz, z', rfl, hbz, _, hz', z0, z1, z2, z3, z4, z5, z6, z7⟩ := (Hsl.out.ext Hx2.out).ev (k := j - 1) (by omega)
          rw [hz] at hz'
          obtain rfl := Option.some.inj hz'
          obtain ⟨c0, c1, c2, c3, c4, c5, c6, c7⟩ := ev8_ext Hx2.out hb ⟨d0, d1, d2, d3, d4, d5, d6, d7⟩
          have hbV := hb
          have hbW := Nat.lt_of_lt_of_le hb Hx2.out.size
          have q0 : (0 : Int) ≤ (j : Int) - 1 := by omega
          have q1 : (j : Int) - 1 < (k : Int) := by omega
          have q2 : IntKind.i64.wrap ((j : Int) - 1) = (j : Int) - 1 := by rw [IntKind.wrap_i64]; omega
          have q3 : ((j : Int) - 1).toNat = j - 1 := by omega
          have hj0' : decide (0 < (j : Int)) = true := by simp; omega
          have CL := Lib.hid (fun (W : World) => ref_Less x z W)
          have Hz := Lib.hid hz
          have Hj0 := Lib.hid hj0
          clear hz hz'
          cases hlz : lessE x z
          · rw [hlz] at CL
            go_upto_region 6 with fail
            refine wp_region_ext wr (Keeps.refl _ _) (by kernel_rfl) (by kernel_rfl) ?_
            have hcell := fun (y : XW wr) => y.cell
            repeat (go_big_quiet_step (first | (go_at_call 61; with_reducible exact ext_calls (CL.out _))))
            refine wpQuiet_nil ?_
            rintro _ ⟨y, rfl⟩
            clear hcell z0 z1 z2 z3 z4 z5 z6 z7 c0 c1 c2 c3 c4 c5 c6 c7 CL
            obtain ⟨Z, hZ⟩ : ∃ Z, Z = y.w := ⟨_, rfl⟩
            have HZ := Lib.hid (show Ext V Z by rw [hZ]; exact Hx2.out.trans y.h)
            rw [← hZ]
            have Hle := Lib.hid (show ∀ z', (d.take j).getLast? = some z' → lessE x z' = false from fun z' hz9 => by
              rw [List.getLast?_eq_getElem?, List.length_take, List.getElem?_take, if_pos (by omega), show min j d.length - 1 = j - 1 by have := Hdl.out; omega, Hz.out] at hz9
              rw [← Option.some.inj hz9]; exact hlz)
            clear hZ
            have HslZ := Lib.hid (Hsl.out.ext HZ.out)
            have DZ := Lib.hid (ev8_ext HZ.out hb ⟨d0, d1, d2, d3, d4, d5, d6, d7⟩)
            have HbZ := Lib.hid (Nat.lt_of_lt_of_le hb HZ.out.size)
            have HwZ := Lib.hid Hx.out
            have hzz := HZ.out.size
            have Hfin := Lib.hid (fun (W : World) (B7 : Option Addr) (c7 : Nat) (h7 : j + 1 + (k - j) = k + 1) (h : Own evR 30 (fun _ => True) W w.heap.size (.slice B7 (j + 1 + (k - j)) c7) (j + 1 + (k - j)) (d.take j ++ [x] ++ d.drop j)) => show Own evR 30 (fun _ => True) W w.heap.size (.slice B7 (k + 1) c7) (k + 1) (sortL lessE (l.take (k + 1))) by rw [h7, Hins.out j Hgt.out Hle.out] at h; exact h)
            have Hcut := Lib.hid (HslZ.out.cut (k := j) (cap := cb) hj hcap)
            clear d0 d1 d2 d3 d4 d5 d6 d7
            obtain ⟨f0, f1, f2, f3, f4, f5, f6, f7⟩ := DZ.out
            have hbZ := HbZ.out
            go_upto_region 8 with fail
            go_cut [6] (fun s6 wc => ∃ B6 c6, s6 = .slice B6 (j + 1) c6 ∧ Own evR 30 (fun _ => True) wc Z.heap.size (.slice B6 (j + 1) c6) (j + 1) (d.take j ++ [x]) ∧ Ext Z wc)
            case first =>
              go_region_law (first | (refine step_append_Own (ok := fun _ => True) (R := evR) _ (by rfl) (.tmp 32) (.tmp 35) 22 (by rfl) 30 i0 _ 96 Z.heap.size Tryz.underlying22 hi0 hz0 hz1 hz2 rfl (by decide) (by rfl) (Own.new_nil (by first | exact blk_new _ _ | exact blk_old (blk_new _ _) _ | exact blk_new_ _ _ (by simp) | exact blk_old (blk_new_ _ _ (by simp)) _) (by first | omega | (simp; done) | (simp; omega))) _ j cb (d.take j) (by rfl) (Sl.flat_src evR_flat ((HslZ.out.to_ hj).ext (by repeat (first | with_reducible exact Keeps.refl _ _ | with_reducible refine Keeps.drew ?_ | with_reducible refine Keeps.drewN ?_ _ | with_reducible refine Keeps.alloc ?_ _)))) (by omega) (by decide) (by first | omega | (simp; done) | (simp; omega)) ?_; intro A5 c5 w5 hown5 hg5 hat5; simp only [Nat.zero_add, List.nil_append] at hown5 hg5 hat5; have hx5 : Ext Z w5 := Keeps.grown (by repeat (first | with_reducible exact Keeps.refl _ _ | with_reducible refine Keeps.drew ?_ | with_reducible refine Keeps.drewN ?_ _ | with_reducible refine Keeps.alloc ?_ _)) hg5 (fun g hg hl => by simp [Value.ownBlock] at hg; omega); obtain ⟨e0, e1, e2, e3, e4, e5, e6, e7⟩ := ev8_ext hx5 HbZ.out DZ.out; have hb5 := Nat.lt_of_lt_of_le HbZ.out hx5.size; have hz5 := hx5.size) | (refine step_append_Own (ok := fun _ => True) (R := evR) _ (by rfl) (.tmp 36) (.tmp 41) 22 (by rfl) 30 i0 _ 96 Z.heap.size Tryz.underlying22 hi0 hz0 hz1 hz2 rfl (by decide) (by rfl) (hown5.ext (by repeat (first | with_reducible exact Keeps.refl _ _ | with_reducible refine Keeps.drew ?_ | with_reducible refine Keeps.drewN ?_ _ | with_reducible refine Keeps.alloc ?_ _))) _ 1 1 [x] (by rfl) (Srcs.one_new rfl (by first | exact blk_new _ _ | exact (hg5.block _ (by first | omega | (simp; done) | (simp; omega)) (by simp [Value.ownBlock])).trans (by first | exact blk_new _ _ | exact blk_old (blk_new _ _) _ | exact blk_new_ _ _ (by simp) | exact blk_old (blk_new_ _ _ (by simp)) _)) rfl) (by omega) (by decide) (by first | omega | (simp; done) | (simp; omega)) ?_; intro A6 c6 w6 hown6 hg6 hat6; have hx6 : Ext Z w6 := Keeps.grown (by repeat (first | with_reducible exact hx5 | with_reducible exact Keeps.refl _ _ | with_reducible refine Keeps.drew ?_ | with_reducible refine Keeps.drewN ?_ _ | with_reducible refine Keeps.alloc ?_ _)) hg6 (fun g hg hl => by have := (hown5.lt g hg).1; omega)))
              all_goals
                go_wp2_with fail
                go_meet
                exact ⟨A6, c6, rfl, hown6, hx6⟩
            case rest =>
              obtain ⟨A6, c6, hv6, hown6, hx6⟩ := hcut
              obtain ⟨w6, hw6⟩ : ∃ w6, w6 = wc := ⟨_, rfl⟩
              rw [← hw6] at hown6 hx6 ⊢
              subst hv6
              have Hown6 := Lib.hid hown6
              have Hx6 := Lib.hid hx6
              have hz6 := hx6.size
              clear hown6 hx6 hw6 f0 f1 f2 f3 f4 f5 f6 f7
              by_cases hcb : cb = j
              · rw [if_pos hcb] at Hcut
                (go_wp2_with (at_builtin; refine wpList_append_Own (ok := fun _ => True) (R := evR) _ rfl (.tmp 43) (.tmp 46) 22 rfl 30 i0 _ 96 Z.heap.size Tryz.underlying22 hi0 hz0 hz1 hz2 rfl (by decide) rfl Hown6.out _ (k - j) _ (d.drop j) rfl (Sl.flat_src evR_flat (Hcut.out.ext Hx6.out)) (by omega) (by decide) (by omega) ?_; intro A7 c7 w7 hown7 hg7 hat7; have Hown7 := Lib.hid hown7; have Hx7 := Lib.hid (show Ext Z w7 from Keeps.grown Hx6.out hg7 (fun g hg hl => by have := (Hown6.out.lt g hg).1; omega)); clear hown7 hg7 hat7); go_roundw; (case rel => exact ⟨k + 1, A7, c7, by omega, by go_num, by congr 1; omega, Hfin.out _ _ _ (by omega) (Own.le Hown7.out (Nat.le_trans HwZ.out.size hzz)), HwZ.out.trans (HZ.out.trans Hx7.out)⟩); (case measure => (simp [intOf]; omega)))
              · rw [if_neg hcb] at Hcut
                simp only [Option.map_some, ad_add, show evR.size = 8 from rfl] at Hcut
                (go_wp2_with (at_builtin; refine wpList_append_Own (ok := fun _ => True) (R := evR) _ rfl (.tmp 43) (.tmp 46) 22 rfl 30 i0 _ 96 Z.heap.size Tryz.underlying22 hi0 hz0 hz1 hz2 rfl (by decide) rfl Hown6.out _ (k - j) _ (d.drop j) rfl (Sl.flat_src evR_flat (Hcut.out.ext Hx6.out)) (by omega) (by decide) (by omega) ?_; intro A7 c7 w7 hown7 hg7 hat7; have Hown7 := Lib.hid hown7; have Hx7 := Lib.hid (show Ext Z w7 from Keeps.grown Hx6.out hg7 (fun g hg hl => by have := (Hown6.out.lt g hg).1; omega)); clear hown7 hg7 hat7); go_roundw; (case rel => exact ⟨k + 1, A7, c7, by omega, by go_num, by congr 1; omega, Hfin.out _ _ _ (by omega) (Own.le Hown7.out (Nat.le_trans HwZ.out.size hzz)), HwZ.out.trans (HZ.out.trans Hx7.out)⟩); (case measure => (simp [intOf]; omega)))
          · rw [hlz] at CL
            go_upto_region 6 with fail
            refine wp_region_ext wr (Keeps.refl _ _) (by kernel_rfl) (by kernel_rfl) ?_
            have hcell := fun (y : XW wr) => y.cell
            repeat (go_big_quiet_step (first | (go_at_call 61; with_reducible exact ext_calls (CL.out _))))
            refine wpQuiet_nil ?_
            rintro _ ⟨y, rfl⟩
            clear hcell z0 z1 z2 z3 z4 z5 z6 z7 c0 c1 c2 c3 c4 c5 c6 c7 CL d0 d1 d2 d3 d4 d5 d6 d7
            go_wp2_with fail
            go_roundw
            case rel =>
              refine ⟨j - 1, by omega, by have := Hj0.out; congr 1; omega, fun y' hy' => ?_, Hx2.out.trans y.h⟩
              have hj1 : j - 1 < d.length := by have := Hdl.out; have := Hj0.out; omega
              rw [List.drop_eq_getElem_cons hj1] at hy'
              rcases List.mem_cons.1 hy' with h9 | h9
              · rw [h9]
                have := Hz.out
                rw [List.getElem?_eq_getElem hj1] at this
                rw [Option.some.inj this]; exact hlz
              · rw [show j - 1 + 1 = j by have := Hj0.out; omega] at h9
                exact Hgt.out y' h9
            case measure => have := Hj0.out; simp [intOf]; omega
    · obtain rfl : k = n := by omega
      have hev := Hown.out.evs
      rw [List.take_of_length_le (Nat.le_of_eq Hl.out)] at hev
      have Hev := Lib.hid hev
      clear hev
      go_wp2_with fail
      go_ret
      exact ⟨B, cb, rfl, hcap, Hev.out, Hx.out⟩
end Go.Proofs.YtpkkkhgmkndpdaaGreatDoor
