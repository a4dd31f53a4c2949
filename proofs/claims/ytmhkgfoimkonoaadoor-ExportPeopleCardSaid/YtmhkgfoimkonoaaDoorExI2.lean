/-
  What is proved here: the program's Import of a text is the plain function's. Conditions: a text of at most a million bytes; the library's variables, and the names of the kinds, hold what their text lays.
-/
import Derived.Test.YtmhkgfoimkonoaaDoorExI
import Derived.Test.YtmhkgfoimkonoaaDoorExA
import Derived.Test.YtmhkgfoimkonoaaDoorEvLst
import Derived.ScopeJumps
import Derived.WalkMore
namespace Go.Proofs.YtmhkgfoimkonoaaDoor
open Go Go.RowKit Go.Proofs
attribute [local go_sem ↓] Go.wp_at_zero Go.wp_at_succ
theorem jump_mono {l : Nat} {J J' : Act → World → Prop} {Q : Exit → Act → World → Prop} (h : ∀ a w, J a w → J' a w) {e : Exit} {a : Act} {w : World} (hq : Exit.jump l J Q e a w) : Exit.jump l J' Q e a w := by
  cases e <;> simp only [Exit.jump] at hq ⊢
  all_goals first | exact hq | exact ⟨hq.1, h _ _ hq.2⟩
theorem wp_scope_jumps2 {P : Program} {a : Act} {w : World} {Q : Exit → Act → World → Prop} {c rest : Code} (l : Nat) (J : Act → World → Prop) (μ : Act → World → Nat) (hf : findLabel c l = some (Code.skip.seq rest))
    (pass : ∀ a w, J a w → rest.wp P (Exit.jump l (fun a' w' => J a' w' ∧ μ a' w' < μ a w) Q) a w) (first : (∀ a w, J a w → rest.wp P (Exit.jump l J Q) a w) → c.wp P (Exit.jump l J Q) a w) : (Code.scope c).wp P Q a w :=
  wp_scope_jumps l J μ hf (first fun a w h => wp_mono (pass a w h) fun _ _ _ hq => jump_mono (fun _ _ h => h.1) hq) fun a w h => wp_seq (wp_skip (pass a w h))
def strSz : Value → Nat | .string s => s.size | _ => 0
structure ImAt (s : ByteArray) (w : World) (s' : ByteArray) (B : Option Addr) (k cb : Nat) (es : List Ev) (w' : World) : Prop where
  rest : impL (partsL 10 s'.data.toList) es = impS s
  len : k + s'.size ≤ s.size
  own : Own evR 30 (fun _ => True) w' w.heap.size (.slice B k cb) k es
  mp : Mp (idK idT_export) hadV w' w.heap.size (hadL es)
  ext : Ext w w'
theorem ImAt.go {s : ByteArray} {w : World} {s' : ByteArray} {B : Option Addr} {k cb : Nat} {es : List Ev} {w' w2 : World} (h : ImAt s w s' B k cb es w') (hx : Ext w' w2) : ImAt s w s' B k cb es w2 := ⟨h.rest, h.len, h.own.ext hx, h.mp.ext hx, h.ext.trans hx⟩
def ImPost (s : ByteArray) (w : World) (r : Ending) (w' : World) : Prop := ∃ B k cb, r = .returned (.tuple #[.slice B k cb, .int .i64 (impS s).2.1, .int .i64 (impS s).2.2]) ∧ Own evR 30 (fun _ => True) w' w.heap.size (.slice B k cb) k (impS s).1 ∧ Ext w w'
theorem imPost_err {s : ByteArray} {w w' : World} {k : Nat} {z : Int} (h : impS s = ([], (k : Int) + 1, z)) (hx : Ext w w') : ImPost s w (.returned (.tuple #[.slice none 0 0, .int .i64 ((k : Int) + 1), .int .i64 z])) w' :=
  ⟨none, 0, 0, by rw [h], by rw [h]; exact Own.nil_, hx⟩
set_option maxRecDepth 100000 in
set_option maxHeartbeats 8000000 in
theorem ex_Import (s : ByteArray) (w : World) (hs : s.size ≤ 999999) (hv : Vars w) : Calls Tryd.prog 18 #[.string s] w (ImPost s w) := by
  have Hv := Lib.hid hv
  have hmm := @run_makeMap Tryd.prog
  obtain ⟨i0, hi0, hz0, hz1, hz2⟩ := info_part3 info_apiEv
  clear hv
  go_enter Tryd.func18, Tryd.ntmps18
  go_wp2
  refine wp_scope_jumps2 0 (fun a' w' => ∃ (s' : ByteArray) (B : Option Addr) (k cb : Nat) (es : List Ev) (u7 u8 u9 u10 u11 u13 u14 u15 u16 u17 u18 u19 u20 u21 u22 u23 u24 u25 u26 u27 u28 u29 u30 u31 u32 u33 u34 u35 u36 u37 u38 u39 u40 u41 u42 u43 u44 u45 u46 u47 u48 u49 u50 u51 : Value), a' = { tmps := #[.string s', undef, .slice none 0 0, .int .i64 0, .int .i64 0, .slice B k cb, .map (some w.heap.size), u7, u8, u9, u10, u11, .map (some w.heap.size), u13, u14, u15, u16, u17, u18, u19, u20, u21, u22, u23, u24, u25, u26, u27, u28, u29, u30, u31, u32, u33, u34, u35, u36, u37, u38, u39, u40, u41, u42, u43, u44, u45, u46, u47, u48, u49, u50, u51], defers := [] } ∧ ImAt s w s' B k cb es w') (fun a' _ => strSz (a'.tmps.getD 0 undef)) rfl ?_ ?_
  · rintro a' w' ⟨s', B, k, cb, es, u7, u8, u9, u10, u11, u13, u14, u15, u16, u17, u18, u19, u20, u21, u22, u23, u24, u25, u26, u27, u28, u29, u30, u31, u32, u33, u34, u35, u36, u37, u38, u39, u40, u41, u42, u43, u44, u45, u46, u47, u48, u49, u50, u51, rfl, him⟩
    have Him := Lib.hid him
    have hlen := him.len
    have hext := him.ext.size
    have Hel := Lib.hid him.own.1
    clear him
    rcases cut_cases 10 s'.data.toList with hfree | ⟨a, r, hfree, hcut⟩
    · by_cases h0 : s'.data.toList = []
      · have hs0 : s' = ⟨#[]⟩ := toList_inj (by rw [h0])
        have Hres := Lib.hid (show impS s = (es, 0, 0) by have h9 := Him.out.rest; rw [h0, impL_end] at h9; exact h9.symm)
        subst hs0
        clear hfree h0
        go_wp2_with fail
        simp only [Exit.jump]
        go_ret3
        exact ⟨B, k, cb, by rw [Hres.out]; rfl, by rw [Hres.out]; exact Him.out.own, Him.out.ext⟩
      · have hne : (s'.toList == ([] : List UInt8)) = false := by rw [ByteArray.toList_eq]; simpa using h0
        have hne2 : (s'.toList == (⟨#[]⟩ : ByteArray).toList) = false := by rw [show (⟨#[]⟩ : ByteArray).toList = [] by rw [ByteArray.toList_eq]]; exact hne
        have Hres := Lib.hid (show impS s = ([], (k : Int) + 1, 2) by have h9 := Him.out.rest; rw [impL_torn hfree h0, Hel.out] at h9; exact h9.symm)
        have HC := Lib.hid (fun (W : World) (h : Ext w W) => show Calls Tryd.prog 41 #[.string s', .string ⟨#[10]⟩] W (fun r w' => r = .returned (.tuple #[.string s', .string ⟨#[]⟩, .bool false]) ∧ Ext W w') by
          have h9 := str_Cut s' 10 W (by omega) (Hv.out.mx.ext h)
          rw [(cut_none hfree).1, (cut_none hfree).2.1, (cut_none hfree).2.2, bts_of] at h9
          exact h9)
        have HP : ∃ (e : Ev) (f : Int), ∀ W, Vars W → Calls Tryd.prog 42 #[.string s'] W (fun r w' => r = .returned (.tuple #[.agg #[.string e.src, .int .i64 e.num, .int .i64 e.tick, .int .i64 e.kind, .string e.person, .string e.item, .int .i64 e.value, .string e.text], .int .i64 f]) ∧ Ext W w') := by
          rcases both_Parse s' (by omega) with ⟨e, _, _, _, h5, _⟩ | ⟨_, h5, _⟩
          · exact ⟨e, 0, h5⟩
          · exact ⟨ev0, 2, h5⟩
        obtain ⟨e, f, hP⟩ := HP
        have HPP := Lib.hid hP
        clear hP hfree h0
        go_wp2_with fail
        refine (HC.out w' Him.out.ext).mono ?_
        rintro _ w1 ⟨rfl, hx1⟩
        have Hx1 := Lib.hid (Him.out.ext.trans hx1)
        clear hx1
        go_wp2_with fail
        refine (HPP.out w1 (Hv.out.ext Hx1.out)).mono ?_
        rintro _ w2 ⟨rfl, hx2⟩
        have Hx2 := Lib.hid (Hx1.out.trans hx2)
        clear hx2
        go_wp2_with fail
        simp only [Exit.jump]
        go_ret3
        exact imPost_err Hres.out (Hx2.out.alloc _)
    · have hne : (s'.toList == ([] : List UInt8)) = false := by rw [ByteArray.toList_eq, hcut]; simp
      have hne2 : (s'.toList == (⟨#[]⟩ : ByteArray).toList) = false := by rw [show (⟨#[]⟩ : ByteArray).toList = [] by rw [ByteArray.toList_eq]]; exact hne
      have hsz : s'.size = a.length + 1 + r.length := by
        have := size_list s'
        rw [← this, hcut]; simp; omega
      have hal : (bts a).size ≤ 999999 := by rw [bts_size]; omega
      have hrl : (bts r).size = r.length := bts_size r
      have Hrest := Lib.hid (show impL (partsL 10 (a ++ 10 :: r)) es = impS s by rw [← hcut]; exact Him.out.rest)
      have HC := Lib.hid (fun (W : World) (h : Ext w W) => show Calls Tryd.prog 41 #[.string s', .string ⟨#[10]⟩] W (fun r' w' => r' = .returned (.tuple #[.string (bts a), .string (bts r), .bool true]) ∧ Ext W w') by
        have h9 := str_Cut s' 10 W (by omega) (Hv.out.mx.ext h)
        rw [hcut, (cut_hit hfree).1, (cut_hit hfree).2.1, (cut_hit hfree).2.2] at h9
        exact h9)
      have Hfree := Lib.hid hfree
      obtain ⟨ln, hln⟩ : ∃ ln, ln = bts a := ⟨_, rfl⟩
      obtain ⟨rs, hrs⟩ : ∃ rs, rs = bts r := ⟨_, rfl⟩
      rw [← hln] at HC hal
      rw [← hrs] at HC hrl
      have Hln := Lib.hid hln
      have Hrs := Lib.hid hrs
      clear hfree hcut hln hrs
      rcases both_Parse ln hal with ⟨e, hpe, hme, _, hP, _⟩ | ⟨hpe, hP, _⟩
      · have HPP := Lib.hid (fun (W : World) (h : Vars W) => show Calls Tryd.prog 42 #[.string ln] W (fun r w' => r = .returned (.tuple #[.agg #[.string e.src, .int .i64 e.num, .int .i64 e.tick, .int .i64 e.kind, .string e.person, .string e.item, .int .i64 e.value, .string e.text], .int .i64 0]) ∧ Ext W w') from hP W h)
        have Hst := Lib.hid (show impS s = if wrongE es e = 0 then impL (partsL 10 r) (es ++ [e]) else ([], (k : Int) + 1, wrongE es e) by
          rw [← Hrest.out, impL_some Hfree.out (by rw [← Hln.out]; exact hpe), Hel.out])
        have HW := Lib.hid (fun (W : World) (h : Ext w' W) => ex_wrong B k cb es w.heap.size e _ W (Him.out.own.evSl.ext h) (Him.out.mp.ext h) (by omega))
        have Hw0 := Lib.hid (fun (h : wrongE es e = 0) => (wrong_zero h).2)
        obtain ⟨z, hz⟩ : ∃ z, z = wrongE es e := ⟨_, rfl⟩
        rw [← hz] at Hst HW Hw0
        clear hP hpe hme hz
        by_cases hz0' : z = 0
        · have Hw1 := Lib.hid (Hw0.out hz0')
          have Hst1 := Lib.hid (show impS s = impL (partsL 10 r) (es ++ [e]) by rw [Hst.out, if_pos hz0'])
          subst hz0'
          clear Hw0 Hst
          go_wp2_with fail
          refine (HC.out w' Him.out.ext).mono ?_
          rintro _ w1 ⟨rfl, hx1⟩
          have Hx1 := Lib.hid hx1
          clear hx1
          go_wp2_with fail
          refine (HPP.out w1 (Hv.out.ext (Him.out.ext.trans Hx1.out))).mono ?_
          rintro _ w2 ⟨rfl, hx2⟩
          have Hx2 := Lib.hid (Hx1.out.trans hx2)
          clear hx2
          go_wp2_with fail
          refine (HW.out _ (Hx2.out.alloc _)).mono ?_
          rintro _ w3 ⟨rfl, hx3⟩
          have g3 := hx3.blk (blk_new w2 _)
          have Hx3 := Lib.hid (Keeps.trans (Hx2.out.alloc _) hx3)
          obtain ⟨w4, P4, hm4, hk4⟩ := put_h (Him.out.mp.ext Hx3.out) e Hw1.out
          have q0 := blk_cell g3 0 rfl
          have q1 := blk_cell g3 1 rfl
          obtain ⟨om, hom, hom'⟩ : ∃ o, w3.heap[w.heap.size]? = some o ∧ ∀ C t' fr, o ≠ .cells C t' fr := by
            obtain ⟨es', c', h1, _⟩ := Him.out.mp.ext Hx3.out
            exact ⟨_, h1, fun _ _ _ e => (by cases e)⟩
          have hown3 := Him.out.own.ext Hx3.out
          have hne3 := hown3.ne_obj hom hom'
          have hown4 := hown3.flat (ok' := fun _ => True) evR_flat (fun g hg => hk4.block g (hown3.lt g hg).2 (fun e => hne3 (by rw [hg, e])))
          have hg4 : w4.heap[w2.heap.size]? = _ := (hk4.block w2.heap.size (Array.getElem?_eq_some_iff.1 g3).1 (by have := Him.out.ext.size; have := Hx2.out.size; have := Him.out.mp.lt; omega)).trans g3
          have r0 := blk_cell hg4 0 rfl
          have r1 := blk_cell hg4 1 rfl
          have r2 := blk_cell hg4 2 rfl
          have r3 := blk_cell hg4 3 rfl
          have r4 := blk_cell hg4 4 rfl
          have r5 := blk_cell hg4 5 rfl
          have r6 := blk_cell hg4 6 rfl
          have r7 := blk_cell hg4 7 rfl
          have Hown4 := Lib.hid hown4
          have Hmp4 := Lib.hid hm4
          have Hx4 := Lib.hid (show Ext w w4 from Keeps.then_ (Him.out.ext.trans Hx3.out) hk4 (fun i hi _ e => by omega))
          have hw4 := Hx4.out.size
          have Hne4 := Lib.hid hne3
          clear hx3 g3 hm4 hk4 hown3 hown4 hne3 hg4 hom hom'
          go_wp2_with (at_builtin; refine wpList_append_Own (ok := fun _ => True) (R := evR) _ rfl (.tmp 47) (.tmp 49) 22 rfl 30 i0 _ 96 w.heap.size Tryd.underlying22 hi0 hz0 hz1 hz2 rfl (by decide) rfl (Hown4.out.alloc _) _ 1 1 [e] rfl (Srcs.one_new rfl (by first | exact blk_new _ _ | exact blk_new_ _ _ (by simp)) rfl) (by omega) (by decide) (by first | omega | (simp; omega)) ?_; intro A8 c8 w8 hown8 hg8 hat8; have Hown8 := Lib.hid hown8; have Hx8 := Lib.hid (show Ext w w8 from Keeps.grown (Hx4.out.alloc _) hg8 (fun g hg hl => by have := (Hown4.out.lt g hg).1; omega)); have Hm8 := Lib.hid ((Hmp4.out.ext ((Keeps.refl (fun _ => True) _).alloc _)).keep (Keeps.grown (Keeps.refl (fun k9 => (Value.slice B k cb).ownBlock ≠ some k9) _) hg8 (fun k9 hk _ h => h hk)) Hne4.out); clear hown8 hg8 hat8)
          go_step3
          refine ⟨rfl, ⟨rs, A8, k + 1, c8, es ++ [e], _, _, _, _, _, _, _, _, _, _, _, _, _, _, _, _, _, _, _, _, _, _, _, _, _, _, _, _, _, _, _, _, _, _, _, _, _, _, _, _, _, _, _, _, rfl, ⟨?_, by omega, Hown8.out, Hm8.out, Hx8.out⟩⟩, ?_⟩
          · rw [Hst1.out, Hrs.out, bts_data]
          · simp [strSz]; omega
        · have Hres := Lib.hid (show impS s = ([], (k : Int) + 1, z) by rw [Hst.out, if_neg hz0'])
          have hz9 : (z != 0) = true := by simpa using hz0'
          clear hz0'
          go_wp2_with fail
          refine (HC.out w' Him.out.ext).mono ?_
          rintro _ w1 ⟨rfl, hx1⟩
          have Hx1 := Lib.hid hx1
          clear hx1
          go_wp2_with fail
          refine (HPP.out w1 (Hv.out.ext (Him.out.ext.trans Hx1.out))).mono ?_
          rintro _ w2 ⟨rfl, hx2⟩
          have Hx2 := Lib.hid (Hx1.out.trans hx2)
          clear hx2
          go_wp2_with fail
          refine (HW.out _ (Hx2.out.alloc _)).mono ?_
          rintro _ w3 ⟨rfl, hx3⟩
          have Hx3 := Lib.hid (Him.out.ext.trans (Keeps.trans (Hx2.out.alloc _) hx3))
          clear hx3
          go_wp2_with fail
          simp only [Exit.jump]
          go_ret3
          exact imPost_err Hres.out Hx3.out
      · have HPP := Lib.hid (fun (W : World) (h : Vars W) => show Calls Tryd.prog 42 #[.string ln] W (fun r w' => r = .returned (.tuple #[.agg #[.string ⟨#[]⟩, .int .i64 0, .int .i64 0, .int .i64 0, .string ⟨#[]⟩, .string ⟨#[]⟩, .int .i64 0, .string ⟨#[]⟩], .int .i64 2]) ∧ Ext W w') from hP W h)
        have Hres := Lib.hid (show impS s = ([], (k : Int) + 1, 2) by rw [← Hrest.out, impL_none Hfree.out (by rw [← Hln.out]; exact hpe), Hel.out])
        clear hP hpe
        go_wp2_with fail
        refine (HC.out w' Him.out.ext).mono ?_
        rintro _ w1 ⟨rfl, hx1⟩
        have Hx1 := Lib.hid (Him.out.ext.trans hx1)
        clear hx1
        go_wp2_with fail
        refine (HPP.out w1 (Hv.out.ext Hx1.out)).mono ?_
        rintro _ w2 ⟨rfl, hx2⟩
        have Hx2 := Lib.hid (Hx1.out.trans hx2)
        clear hx2
        go_wp2_with fail
        simp only [Exit.jump]
        go_ret3
        exact imPost_err Hres.out (Hx2.out.alloc _)
  · intro hp
    have H0 := Lib.hid (show ImAt s w s none 0 0 [] (w.alloc (.map #[] 0)) from ⟨rfl, by omega, Own.nil_, Mp.new w, (Keeps.refl _ _).alloc _⟩)
    go_wp2
    go_step3
    rename_i hK
    exact hK _ _ (hp _ _ ⟨s, none, 0, 0, [], _, _, _, _, _, _, _, _, _, _, _, _, _, _, _, _, _, _, _, _, _, _, _, _, _, _, _, _, _, _, _, _, _, _, _, _, _, _, _, _, _, _, _, _, rfl, H0.out⟩)
end Go.Proofs.YtmhkgfoimkonoaaDoor
