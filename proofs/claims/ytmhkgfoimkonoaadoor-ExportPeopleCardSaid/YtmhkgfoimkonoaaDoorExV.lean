/-
  What is proved here: the document's Import of a text is the plain function's. Conditions: a text of at most a million bytes.
  the document's In and Put of texts. Conditions: at most a hundred thousand texts.
-/
import Derived.Test.YtmhkgfoimkonoaaDoorExG
namespace Go.Proofs.YtmhkgfoimkonoaaDoor
open Go Go.RowKit Go.Proofs
attribute [local go_sem ↓] Go.wp_at_zero Go.wp_at_succ
theorem impL_none' {p q : List UInt8} {ps : List (List UInt8)} {out : List Ev} (hp : parseE (bts p) = none) : impL (p :: q :: ps) out = ([], (out.length : Int) + 1, 2) := by simp only [impL, hp]
theorem impL_some' {p q : List UInt8} {ps : List (List UInt8)} {out : List Ev} {e : Ev} (hp : parseE (bts p) = some e) : impL (p :: q :: ps) out = if wrongE out e = 0 then impL (q :: ps) (out ++ [e]) else ([], (out.length : Int) + 1, wrongE out e) := by simp only [impL, hp]
theorem Own.ne_own {α β : Type} {R : Rep α} {R' : Rep β} {t t' : TypeId} {ok ok' : Nat → Prop} {w : World} {base base' : Nat} {v v' : Value} {n n' : Nat} {l : List α} {l' : List β} (h : Own R t ok w base v n l) (h' : Own R' t' ok' w base' v' n' l') (ht : t ≠ t') {g : Nat} (hg : v.ownBlock = some g) : v'.ownBlock ≠ some g := by
  rcases h.2.choose_spec.1.2 with ⟨hv, _⟩ | ⟨g', cap, cur, hv, _, hh, _⟩
  · rw [hv] at hg; simp [Value.ownBlock] at hg
  · rw [hv] at hg
    have : g' = g := by simpa [Value.ownBlock] using hg
    subst this
    exact Own.ne_blk h' hh (Ne.symm ht)
theorem Own.strSl {ok : Nat → Prop} {w : World} {base n c : Nat} {A : Option Addr} {l : List ByteArray} (h : Own strR 9 ok w base (.slice A n c) n l) : Sl strR (fun _ => True) w A n l := h.sl (fun _ _ _ _ => trivial) (fun _ _ _ => trivial)
structure RfAt (P : List (List UInt8)) (R : List Ev × Int × Int) (k : Nat) (es : List Ev) : Prop where
  mid : k < P.length → impL (P.drop k) es = R ∧ es.length = k
  fin : k = P.length → R = (es, 0, 0)
theorem parts_count (c : UInt8) (l : List UInt8) : (partsL c l).length ≤ l.length + 1 := by
  induction l with
  | nil => simp [partsL]
  | cons b l ih =>
    rw [partsL]
    split
    · simp; omega
    · split
      · simp
      · rename_i q qs hq
        rw [hq] at ih
        simp at ih ⊢; omega
set_option maxRecDepth 100000 in
set_option maxHeartbeats 8000000 in
theorem rf_Import (s : ByteArray) (w : World) (hs : s.size ≤ 999999) : Calls Tryd.prog 21 #[.string s] w (ImPost s w) := by
  obtain ⟨i0, hi0, hz0, hz1, hz2⟩ := info_part3 info_apiEv
  have HP := Lib.hid (fun (W : World) => show Calls Tryd.prog 46 #[.string s, .int .u8 10] W (PartsPost ((partsL 10 s.data.toList).map bts) W) from ref_Parts s 10 W (by omega))
  have hcnt : (partsL 10 s.data.toList).length ≤ 1000000 := by have := parts_count 10 s.data.toList; have := size_list s; omega
  have Hsz := Lib.hid (show ∀ p ∈ partsL 10 s.data.toList, p.length ≤ 999999 from fun p hp => by have := parts_sizes hp; have := size_list s; omega)
  have H0 := Lib.hid (show RfAt (partsL 10 s.data.toList) (impS s) 0 [] from ⟨fun _ => ⟨by rw [List.drop_zero]; rfl, rfl⟩, fun h => absurd (List.eq_nil_of_length_eq_zero h.symm) (parts_ne 10 _)⟩)
  obtain ⟨P, hP⟩ : ∃ P, P = partsL 10 s.data.toList := ⟨_, rfl⟩
  rw [← hP] at HP hcnt Hsz H0
  obtain ⟨R, hR⟩ : ∃ R, R = impS s := ⟨_, rfl⟩
  have HR := Lib.hid hR
  rw [← hR] at H0
  clear hP hR
  go_enter Tryd.func21, Tryd.ntmps21
  go_wp2_with fail
  refine (HP.out _).mono ?_
  rintro _ w1 ⟨A6, c6, rfl, hown6, hx6⟩
  have Hls := Lib.hid (hown6.le (base' := w.heap.size) (by simp))
  have Hx1 := Lib.hid (show Ext w w1 from Keeps.trans ((Keeps.refl _ _).alloc _) hx6)
  have Hg := Lib.hid (hx6.blk (blk_new w _))
  obtain ⟨n, hn⟩ : ∃ n, n = P.length := ⟨_, rfl⟩
  rw [show (P.map bts).length = n by rw [List.length_map, hn]] at Hls ⊢
  rw [← hn] at hcnt
  have Hn := Lib.hid hn
  clear hown6 hx6 hn
  go_wp2_with fail
  go_loopw [5, 7] (fun v i wr => ∃ (k q : Nat) (B : Option Addr) (cb : Nat) (es : List Ev), k ≤ n ∧ q ≤ k ∧ i = .int .i64 k ∧ v = .slice B q cb ∧ Own evR 30 (fun _ => True) wr w.heap.size (.slice B q cb) q es ∧ Ext w wr ∧ RfAt P R k es ∧ Own strR 9 (fun _ => True) wr w.heap.size (.slice A6 n c6) n (P.map bts)) (fun _ i _ => n - (intOf i).toNat)
  case atStart => exact ⟨0, 0, _, 0, [], Nat.zero_le _, Nat.le_refl _, rfl, rfl, Own.new_nil Hg.out (Nat.le_refl _), Hx1.out, H0.out, Hls.out⟩
  case round =>
    obtain ⟨k, q, B, cb, es, hk, hqk, rfl, rfl, hown, hx, hrf, hls⟩ := hrel
    have Hli := Lib.hid hls
    have Hown := Lib.hid hown
    have Hx := Lib.hid hx
    have Hrf := Lib.hid hrf
    have Hql := Lib.hid hown.1
    clear hown hx hrf hls
    by_cases hlt : k < n
    · obtain ⟨hmid, hlen⟩ := Hrf.out.mid (by have := Hn.out; omega)
      obtain ⟨b, o, t, rfl, hb, _, ht, d0⟩ := Hli.out.strSl.str hlt
      have j0 : (0 : Int) ≤ (k : Int) := by omega
      have j1 : (k : Int) < (n : Int) := by omega
      have hkP : k < P.length := by have := Hn.out; omega
      obtain ⟨p, hp⟩ : ∃ p, P[k]? = some p := ⟨_, List.getElem?_eq_getElem hkP⟩
      have hdrop : P.drop k = p :: P.drop (k + 1) := by
        rw [List.drop_eq_getElem_cons hkP]
        rw [List.getElem?_eq_getElem hkP] at hp
        rw [Option.some.inj hp]
      have htp : t = bts p := by
        rw [List.getElem?_map, hp] at ht
        exact (Option.some.inj ht).symm
      have hts : t.size ≤ 999999 := by rw [htp, bts_size]; exact Hsz.out p (List.mem_of_getElem? hp)
      have Hlen := Lib.hid hlen
      have htl : t.toList = p := by rw [ByteArray.toList_eq, htp, bts_data]
      rw [hdrop] at hmid
      have hqk' : q = k := by have := Hql.out; omega
      subst hqk'
      by_cases hlast : q + 1 = n
      · have hl1 : ((q : Int) == (n : Int) - 1) = true := by simp; omega
        rw [List.drop_eq_nil_of_le (by have := Hn.out; omega)] at hmid
        by_cases hpn : p = []
        · have ht0 : t = ⟨#[]⟩ := by rw [htp, hpn]; rfl
          subst ht0
          have hR0 : R = (es, 0, 0) := by rw [← hmid, hpn]; rfl
          have Hnew := Lib.hid (show RfAt P R (q + 1) es from ⟨fun h => by have := Hn.out; omega, fun _ => hR0⟩)
          have hnil : ((⟨#[]⟩ : ByteArray).toList == ([] : List UInt8)) = true := by rw [ByteArray.toList_eq]; rfl
          clear hmid hlen ht hp hdrop htp hpn hR0 hlast htl
          go_wp2_with fail
          go_roundw
          case rel => exact ⟨q + 1, q, B, cb, es, by omega, by omega, by go_num, rfl, Hown.out, Hx.out, Hnew.out, Hli.out⟩
          case measure => simp [intOf]; omega
        · have hRe := Lib.hid (show impS s = ([], (q : Int) + 1, 2) by
            rw [← HR.out, ← hmid]
            show (if p.isEmpty then _ else _) = _
            rw [if_neg (by simpa using hpn), hlen])
          have hne : (t.toList == ([] : List UInt8)) = false := by rw [htl]; simpa using hpn
          have hne2 : (t.toList == (⟨#[]⟩ : ByteArray).toList) = false := by rw [show (⟨#[]⟩ : ByteArray).toList = [] by rw [ByteArray.toList_eq]]; exact hne
          have HPa : ∃ (e : Ev) (f : Bool), ∀ W, Calls Tryd.prog 47 #[.string t] W (fun r w' => r = .returned (.tuple #[.agg #[.string e.src, .int .i64 e.num, .int .i64 e.tick, .int .i64 e.kind, .string e.person, .string e.item, .int .i64 e.value, .string e.text], .bool f]) ∧ Ext W w') := by
            rcases both_Parse t hts with ⟨e, _, _, _, _, h5⟩ | ⟨_, _, h5⟩
            · exact ⟨e, true, h5⟩
            · exact ⟨ev0, false, h5⟩
          obtain ⟨e, f, hPa⟩ := HPa
          have HPP := Lib.hid hPa
          clear hPa hmid hlen ht hp hdrop htp hpn hlast htl
          go_wp2_with fail
          refine (HPP.out wr).mono ?_
          rintro _ w2 ⟨rfl, hx2⟩
          have Hx2 := Lib.hid (Hx.out.trans hx2)
          clear hx2
          cases f
          · go_wp2_with fail
            go_ret3
            exact imPost_err hRe.out (Hx2.out.alloc _)
          · go_wp2_with fail
            go_ret3
            exact imPost_err hRe.out (Hx2.out.alloc _)
      · have hl1 : ((q : Int) == (n : Int) - 1) = false := by simp; omega
        obtain ⟨p2, ps, hps⟩ : ∃ p2 ps, P.drop (q + 1) = p2 :: ps := by
          have h9 : q + 1 < P.length := by have := Hn.out; omega
          exact ⟨_, _, List.drop_eq_getElem_cons h9⟩
        rw [hps] at hmid
        rcases both_Parse t hts with ⟨e, hpe, _, _, _, hPa⟩ | ⟨hpe, _, hPa⟩
        · have HPP := Lib.hid (fun (W : World) => show Calls Tryd.prog 47 #[.string t] W (fun r w' => r = .returned (.tuple #[.agg #[.string e.src, .int .i64 e.num, .int .i64 e.tick, .int .i64 e.kind, .string e.person, .string e.item, .int .i64 e.value, .string e.text], .bool true]) ∧ Ext W w') from hPa W)
          rw [htp] at hpe
          rw [impL_some' hpe, hlen] at hmid
          have Hmid := Lib.hid hmid
          have Hps := Lib.hid hps
          clear hPa hpe hmid hlen ht hp hdrop htp hps htl
          have hTw := Lib.hid (fun (W : World) (h : Ext wr W) => rf_Twin B q cb es e _ W (Hown.out.evSl.ext h) (by omega))
          go_wp2_with fail
          refine (HPP.out wr).mono ?_
          rintro _ w2 ⟨rfl, hx2⟩
          have Hx2 := Lib.hid hx2
          clear hx2
          go_wp2_with fail
          obtain ⟨X, hX⟩ : ∃ X, X = w2.alloc (.cells #[.string e.src, .int .i64 e.num, .int .i64 e.tick, .int .i64 e.kind, .string e.person, .string e.item, .int .i64 e.value, .string e.text] 30) := ⟨_, rfl⟩
          have HX := Lib.hid (show Ext wr X by rw [hX]; exact Hx2.out.alloc _)
          have HgX := Lib.hid (show X.heap[w2.heap.size]? = some (.cells #[.string e.src, .int .i64 e.num, .int .i64 e.tick, .int .i64 e.kind, .string e.person, .string e.item, .int .i64 e.value, .string e.text] 30) by rw [hX]; exact blk_new _ _)
          rw [← hX]
          clear hX
          rcases Nat.eq_zero_or_pos q with hq0 | hpos
          · have hes : es = [] := List.eq_nil_of_length_eq_zero (by have := Hlen.out; omega)
            have hqd : decide ((0 : Int) < (q : Int)) = false := by simp; omega
            have hqd2 : decide (0 < q) = false := by simp; omega
            have hnq : ¬ (0 : Int) < (q : Int) := by omega
            have hnq2 : ¬ 0 < q := by omega
            have Hwz := Lib.hid (show wrongE es e = if es.any (fun x => sameE x e) then 7 else 0 by rw [hes]; rfl)
            clear hq0 hes
            refine wp_region_ext X (Keeps.refl _ _) (by kernel_rfl) (by kernel_rfl) ?_
            have hcell := fun (y : XW X) => y.cell
            repeat (go_big_quiet_step (fail))
            refine wpQuiet_nil ?_
            rintro _ ⟨y0, rfl⟩
            clear hcell
            obtain ⟨Y, hY⟩ : ∃ Y, Y = y0.w := ⟨_, rfl⟩
            have HY := Lib.hid (show Ext wr Y by rw [hY]; exact HX.out.trans y0.h)
            have HgY := Lib.hid (show Y.heap[w2.heap.size]? = some (.cells #[.string e.src, .int .i64 e.num, .int .i64 e.tick, .int .i64 e.kind, .string e.person, .string e.item, .int .i64 e.value, .string e.text] 30) by rw [hY]; exact y0.h.blk HgX.out)
            rw [← hY]
            clear hY
            have gY := HgY.out
            have a0 := blk_cell gY 0 rfl
            have a1 := blk_cell gY 1 rfl
            have a2 := blk_cell gY 2 rfl
            have a3 := blk_cell gY 3 rfl
            have a4 := blk_cell gY 4 rfl
            have a5 := blk_cell gY 5 rfl
            have a6 := blk_cell gY 6 rfl
            have a7 := blk_cell gY 7 rfl
            have hwY := (Array.getElem?_eq_some_iff.1 gY).1
            clear gY
            go_wp2_with fail
            refine (hTw.out Y HY.out).mono ?_
            rintro _ w9 ⟨rfl, hx9⟩
            clear a0 a1 a2 a3 a4 a5 a6 a7 hwY
            have gY := hx9.blk HgY.out
            have a0 := blk_cell gY 0 rfl
            have a1 := blk_cell gY 1 rfl
            have a2 := blk_cell gY 2 rfl
            have a3 := blk_cell gY 3 rfl
            have a4 := blk_cell gY 4 rfl
            have a5 := blk_cell gY 5 rfl
            have a6 := blk_cell gY 6 rfl
            have a7 := blk_cell gY 7 rfl
            have hwY := (Array.getElem?_eq_some_iff.1 gY).1
            have HownQ := Lib.hid (Hown.out.ext (HY.out.trans hx9))
            have HliQ := Lib.hid (Hli.out.ext (HY.out.trans hx9))
            have HxQ := Lib.hid (Hx.out.trans (HY.out.trans hx9))
            clear gY hx9
            cases ha : es.any (fun x => sameE x e)
            · have hw0 : wrongE es e = 0 := by rw [Hwz.out, ha]; rfl
              have Hnew := Lib.hid (show RfAt P R (q + 1) (es ++ [e]) from ⟨fun h => ⟨by have h9 := Hmid.out; rw [if_pos hw0] at h9; rw [Hps.out]; exact h9, by rw [List.length_append, Hlen.out]; rfl⟩, fun h => absurd h (by have := Hn.out; omega)⟩)
              clear ha hw0
              go_wp2_with (at_builtin; refine wpList_append_Own (ok := fun _ => True) (R := evR) _ rfl (.tmp 71) (.tmp 73) 22 rfl 30 i0 _ 96 w.heap.size Tryd.underlying22 hi0 hz0 hz1 hz2 rfl (by decide) rfl (HownQ.out.alloc _) _ 1 1 [e] rfl (Srcs.one_new rfl (by first | exact blk_new _ _ | exact blk_new_ _ _ (by simp)) rfl) (by omega) (by decide) (by have := HxQ.out.size; first | omega | (simp; omega)) ?_; intro A8 c8 w8 hown8 hg8 hat8; have Hown8 := Lib.hid hown8; have Hx8 := Lib.hid (show Ext w w8 from Keeps.grown (HxQ.out.alloc _) hg8 (fun g hg hl => by have := (HownQ.out.lt g hg).1; omega)); have Hli8 := Lib.hid ((HliQ.out.alloc _).flat (ok' := fun _ => True) strR_flat (fun g hg => hg8.block g ((HliQ.out.alloc _).lt g hg).2 (fun e9 => Own.ne_own HliQ.out HownQ.out (by decide) hg e9.symm))); clear hown8 hg8 hat8)
              go_roundw
              case rel => exact ⟨q + 1, q + 1, A8, c8, es ++ [e], by omega, by omega, by go_num, rfl, Hown8.out, Hx8.out, Hnew.out, Hli8.out⟩
              case measure => simp [intOf]; omega
            · have hw7 : wrongE es e = 7 := by rw [Hwz.out, ha]; rfl
              have hRe := Lib.hid (show impS s = ([], (q : Int) + 1, 7) by rw [← HR.out, ← Hmid.out, hw7]; rfl)
              clear ha hw7
              go_wp2_with fail
              go_ret3
              exact imPost_err hRe.out HxQ.out
          · obtain ⟨bz, oz, z, rfl, hbz, _, hz, z0, z1, z2, z3, z4, z5, z6, z7⟩ := (Hown.out.ext HX.out).evSl.ev (k := q - 1) (by omega)
            have hlast' : es.getLast? = some z := by rw [List.getLast?_eq_getElem?, Hlen.out]; exact hz
            have Hw := Lib.hid (show wrongE es e = if !lessE z e then 10 else if es.any (fun x => sameE x e) then 7 else 0 by unfold wrongE; rw [hlast']; rfl)
            have CL := Lib.hid (fun (W : World) => ref_Less z e W)
            have q0 : (0 : Int) ≤ (q : Int) - 1 := by omega
            have q1 : (q : Int) - 1 < (q : Int) := by omega
            have q2 : IntKind.i64.wrap ((q : Int) - 1) = (q : Int) - 1 := by rw [IntKind.wrap_i64]; omega
            have q3 : ((q : Int) - 1).toNat = q - 1 := by omega
            have q4 : decide ((0 : Int) < (q : Int)) = true := by simpa using hpos
            have gX := HgX.out
            have e0 := blk_cell gX 0 rfl
            have e1 := blk_cell gX 1 rfl
            have e2 := blk_cell gX 2 rfl
            have e3 := blk_cell gX 3 rfl
            have e4 := blk_cell gX 4 rfl
            have e5 := blk_cell gX 5 rfl
            have e6 := blk_cell gX 6 rfl
            have e7 := blk_cell gX 7 rfl
            have hwX := (Array.getElem?_eq_some_iff.1 gX).1
            clear hz hlast' gX
            cases hlz : lessE z e
            · rw [hlz] at CL Hw
              have hRe := Lib.hid (show impS s = ([], (q : Int) + 1, 10) by rw [← HR.out, ← Hmid.out, Hw.out]; rfl)
              refine wp_region_ext X (Keeps.refl _ _) (by kernel_rfl) (by kernel_rfl) ?_
              have hcell := fun (y : XW X) => y.cell
              repeat (go_big_quiet_step (first | (go_at_call 35; with_reducible exact ext_calls (CL.out _))))
              refine wpQuiet_nil ?_
              rintro _ ⟨y0, rfl⟩
              clear hcell
              obtain ⟨Y, hY⟩ : ∃ Y, Y = y0.w := ⟨_, rfl⟩
              have HY := Lib.hid (show Ext wr Y by rw [hY]; exact HX.out.trans y0.h)
              have HgY := Lib.hid (show Y.heap[w2.heap.size]? = some (.cells #[.string e.src, .int .i64 e.num, .int .i64 e.tick, .int .i64 e.kind, .string e.person, .string e.item, .int .i64 e.value, .string e.text] 30) by rw [hY]; exact y0.h.blk HgX.out)
              rw [← hY]
              clear hY
              go_wp2_with fail
              go_ret3
              exact imPost_err hRe.out (Hx.out.trans HY.out)
            · rw [hlz] at CL Hw
              have Hwz := Lib.hid (show wrongE es e = if es.any (fun x => sameE x e) then 7 else 0 from Hw.out)
              refine wp_region_ext X (Keeps.refl _ _) (by kernel_rfl) (by kernel_rfl) ?_
              have hcell := fun (y : XW X) => y.cell
              repeat (go_big_quiet_step (first | (go_at_call 35; with_reducible exact ext_calls (CL.out _))))
              refine wpQuiet_nil ?_
              rintro _ ⟨y0, rfl⟩
              clear hcell
              obtain ⟨Y, hY⟩ : ∃ Y, Y = y0.w := ⟨_, rfl⟩
              have HY := Lib.hid (show Ext wr Y by rw [hY]; exact HX.out.trans y0.h)
              have HgY := Lib.hid (show Y.heap[w2.heap.size]? = some (.cells #[.string e.src, .int .i64 e.num, .int .i64 e.tick, .int .i64 e.kind, .string e.person, .string e.item, .int .i64 e.value, .string e.text] 30) by rw [hY]; exact y0.h.blk HgX.out)
              rw [← hY]
              clear hY
              clear e0 e1 e2 e3 e4 e5 e6 e7 z0 z1 z2 z3 z4 z5 z6 z7 hwX hbz
              have gY := HgY.out
              have a0 := blk_cell gY 0 rfl
              have a1 := blk_cell gY 1 rfl
              have a2 := blk_cell gY 2 rfl
              have a3 := blk_cell gY 3 rfl
              have a4 := blk_cell gY 4 rfl
              have a5 := blk_cell gY 5 rfl
              have a6 := blk_cell gY 6 rfl
              have a7 := blk_cell gY 7 rfl
              have hwY := (Array.getElem?_eq_some_iff.1 gY).1
              clear gY
              go_wp2_with fail
              refine (hTw.out Y HY.out).mono ?_
              rintro _ w9 ⟨rfl, hx9⟩
              clear a0 a1 a2 a3 a4 a5 a6 a7 hwY
              have gY := hx9.blk HgY.out
              have a0 := blk_cell gY 0 rfl
              have a1 := blk_cell gY 1 rfl
              have a2 := blk_cell gY 2 rfl
              have a3 := blk_cell gY 3 rfl
              have a4 := blk_cell gY 4 rfl
              have a5 := blk_cell gY 5 rfl
              have a6 := blk_cell gY 6 rfl
              have a7 := blk_cell gY 7 rfl
              have hwY := (Array.getElem?_eq_some_iff.1 gY).1
              have HownQ := Lib.hid (Hown.out.ext (HY.out.trans hx9))
              have HliQ := Lib.hid (Hli.out.ext (HY.out.trans hx9))
              have HxQ := Lib.hid (Hx.out.trans (HY.out.trans hx9))
              clear gY hx9
              cases ha : es.any (fun x => sameE x e)
              · have hw0 : wrongE es e = 0 := by rw [Hwz.out, ha]; rfl
                have Hnew := Lib.hid (show RfAt P R (q + 1) (es ++ [e]) from ⟨fun h => ⟨by have h9 := Hmid.out; rw [if_pos hw0] at h9; rw [Hps.out]; exact h9, by rw [List.length_append, Hlen.out]; rfl⟩, fun h => absurd h (by have := Hn.out; omega)⟩)
                clear ha hw0
                go_wp2_with (at_builtin; refine wpList_append_Own (ok := fun _ => True) (R := evR) _ rfl (.tmp 71) (.tmp 73) 22 rfl 30 i0 _ 96 w.heap.size Tryd.underlying22 hi0 hz0 hz1 hz2 rfl (by decide) rfl (HownQ.out.alloc _) _ 1 1 [e] rfl (Srcs.one_new rfl (by first | exact blk_new _ _ | exact blk_new_ _ _ (by simp)) rfl) (by omega) (by decide) (by have := HxQ.out.size; first | omega | (simp; omega)) ?_; intro A8 c8 w8 hown8 hg8 hat8; have Hown8 := Lib.hid hown8; have Hx8 := Lib.hid (show Ext w w8 from Keeps.grown (HxQ.out.alloc _) hg8 (fun g hg hl => by have := (HownQ.out.lt g hg).1; omega)); have Hli8 := Lib.hid ((HliQ.out.alloc _).flat (ok' := fun _ => True) strR_flat (fun g hg => hg8.block g ((HliQ.out.alloc _).lt g hg).2 (fun e9 => Own.ne_own HliQ.out HownQ.out (by decide) hg e9.symm))); clear hown8 hg8 hat8)
                go_roundw
                case rel => exact ⟨q + 1, q + 1, A8, c8, es ++ [e], by omega, by omega, by go_num, rfl, Hown8.out, Hx8.out, Hnew.out, Hli8.out⟩
                case measure => simp [intOf]; omega
              · have hw7 : wrongE es e = 7 := by rw [Hwz.out, ha]; rfl
                have hRe := Lib.hid (show impS s = ([], (q : Int) + 1, 7) by rw [← HR.out, ← Hmid.out, hw7]; rfl)
                clear ha hw7
                go_wp2_with fail
                go_ret3
                exact imPost_err hRe.out HxQ.out
        · have HPP := Lib.hid (fun (W : World) => show Calls Tryd.prog 47 #[.string t] W (fun r w' => r = .returned (.tuple #[.agg #[.string ⟨#[]⟩, .int .i64 0, .int .i64 0, .int .i64 0, .string ⟨#[]⟩, .string ⟨#[]⟩, .int .i64 0, .string ⟨#[]⟩], .bool false]) ∧ Ext W w') from hPa W)
          rw [htp] at hpe
          have hRe := Lib.hid (show impS s = ([], (q : Int) + 1, 2) by rw [← HR.out, ← hmid, impL_none' hpe, hlen])
          clear hPa hpe hmid hlen ht hp hdrop htp hps htl
          go_wp2_with fail
          refine (HPP.out wr).mono ?_
          rintro _ w2 ⟨rfl, hx2⟩
          have Hx2 := Lib.hid (Hx.out.trans hx2)
          clear hx2
          go_wp2_with fail
          go_ret3
          exact imPost_err hRe.out (Hx2.out.alloc _)
    · obtain rfl : k = n := by omega
      have hRf := Lib.hid (show impS s = (es, 0, 0) by rw [← HR.out]; exact Hrf.out.fin Hn.out)
      go_wp2_with fail
      go_ret3
      exact ⟨B, q, cb, by rw [hRf.out]; rfl, by rw [hRf.out]; exact Hown.out, Hx.out⟩
end Go.Proofs.YtmhkgfoimkonoaaDoor
namespace Go.Proofs.YtmhkgfoimkonoaaDoor
open Go Go.RowKit Go.Proofs
attribute [local go_sem ↓] Go.wp_at_zero Go.wp_at_succ
set_option maxRecDepth 100000 in
set_option maxHeartbeats 4000000 in
theorem rf_In (A : Option Addr) (n c : Nat) (l : List ByteArray) (s : ByteArray) (ok : Nat → Prop) (w : World) (hs : Sl strR ok w A n l) (hn : n ≤ 1000000) :
    Calls Tryd.prog 51 #[.slice A n c, .string s] w fun r w' => ∃ b, r = .returned (.bool b) ∧ (b = true → s ∈ l) ∧ Ext w w' := by
  have Hs := Lib.hid hs
  clear hs
  go_enter Tryd.func51, Tryd.ntmps51
  go_wp2_with fail
  go_loopw [5] (fun i wr => ∃ k : Nat, k ≤ n ∧ i = .int .i64 k ∧ Ext w wr) (fun i _ => n - (intOf i).toNat)
  case atStart => exact ⟨0, Nat.zero_le _, rfl, Keeps.refl _ _⟩
  case round =>
    obtain ⟨k, hk, rfl, hx⟩ := hrel
    have Hx := Lib.hid hx
    clear hx
    by_cases hlt : k < n
    · obtain ⟨b, o, t, rfl, hb, _, ht, d0⟩ := (Hs.out.ext Hx.out).str hlt
      have j0 : (0 : Int) ≤ (k : Int) := by omega
      have j1 : (k : Int) < (n : Int) := by omega
      have hpe : (t == s) = (t.toList == s.toList) := beq_toListBytes _ _
      have Ht := Lib.hid (List.mem_of_getElem? ht)
      clear ht
      cases hm : (t == s)
      · rw [hm] at hpe
        have hpe' := hpe.symm
        clear hpe hm
        go_wp2_with fail
        go_roundw
        case rel => exact ⟨k + 1, by omega, by go_num, Hx.out⟩
        case measure => simp [intOf]; omega
      · rw [hm] at hpe
        have hpe' := hpe.symm
        have Hin := Lib.hid (show s ∈ l by rw [← beqB_iff.1 hm]; exact Ht.out)
        clear hpe hm
        go_wp2_with fail
        go_ret
        exact ⟨true, rfl, fun _ => Hin.out, Hx.out⟩
    · obtain rfl : k = n := by omega
      go_wp2_with fail
      go_ret
      exact ⟨false, rfl, fun h => (by cases h), Hx.out⟩
theorem mem_put {l : List ByteArray} {s : ByteArray} (j : Nat) (x : ByteArray) : x ∈ l.take j ++ [s] ++ l.drop j ↔ x ∈ l ∨ x = s := by
  have h := List.take_append_drop j l
  constructor
  · intro hx
    rcases List.mem_append.1 hx with hx | hx
    · rcases List.mem_append.1 hx with hx | hx
      · exact .inl (List.mem_of_mem_take hx)
      · exact .inr (List.mem_singleton.1 hx)
    · exact .inl (List.mem_of_mem_drop hx)
  · rintro (hx | hx)
    · rw [← h] at hx
      rcases List.mem_append.1 hx with hx | hx
      · simp [hx]
      · simp [hx]
    · simp [hx]
set_option maxRecDepth 100000 in
set_option maxHeartbeats 8000000 in
theorem rf_Put (A : Option Addr) (n c : Nat) (l : List ByteArray) (s : ByteArray) (base : Nat) (w : World) (hs : Own strR 9 (fun _ => True) w base (.slice A n c) n l) (hn : n ≤ 100000) :
    Calls Tryd.prog 27 #[.slice A n c, .string s] w fun r w' => ∃ B m cb, r = .returned (.slice B m cb) ∧ m ≤ n + 1 ∧ ∃ l', (∀ x, x ∈ l' ↔ x ∈ l ∨ x = s) ∧ (∃ base', (base' = base ∨ base' = w.heap.size) ∧ Own strR 9 (fun _ => True) w' base' (.slice B m cb) m l') ∧ Ext w w' := by
  obtain ⟨i0, hi0, hz0, hz1, hz2⟩ := info_parts info_strE
  have Hs := Lib.hid hs
  have HIn := Lib.hid (rf_In A n c l s _ w hs.strSl (by omega))
  have hnc := hs.cap
  clear hs
  go_enter Tryd.func27, Tryd.ntmps27
  go_wp2_with fail
  refine HIn.out.mono ?_
  rintro _ w1 ⟨b1, rfl, hb1, hx1⟩
  have Hx1 := Lib.hid hx1
  have Hb1 := Lib.hid hb1
  clear hx1 hb1
  cases b1
  · go_wp2_with fail
    go_loopw [5] (fun i wr => ∃ j : Nat, j ≤ n ∧ i = .int .i64 j ∧ Ext w wr) (fun i _ => n - (intOf i).toNat)
    case atStart => exact ⟨0, Nat.zero_le _, rfl, Hx1.out⟩
    case round =>
      obtain ⟨j, hj, rfl, hx⟩ := hrel
      obtain ⟨Z, hZ⟩ : ∃ Z, Z = wr := ⟨_, rfl⟩
      rw [← hZ] at hx ⊢
      have HZ := Lib.hid hx
      clear hx hZ
      have HslZ := Lib.hid (Hs.out.strSl.ext HZ.out)
      have j0 : (0 : Int) ≤ (j : Int) := by omega
      have j1 : (j : Int) ≤ (n : Int) := by omega
      have j2 : (j : Int) ≤ (c : Int) := by omega
      have Hmem := Lib.hid (mem_put (l := l) (s := s) j)
      have Hcut := Lib.hid (HslZ.out.cut (k := j) (cap := c) hj hnc)
      simp only [show strR.size = 1 from rfl, Nat.mul_one] at Hcut
      by_cases hlt : j < n
      · obtain ⟨b, o, t, rfl, hb, _, ht, d0⟩ := HslZ.out.str hlt
        have j3 : (j : Int) < (n : Int) := by omega
        clear ht
        cases hbl : Op.bytesLess t.toList s.toList
        · by_cases hcb : c = j
          · omega
          · rw [if_neg hcb] at Hcut
            simp only [Option.map_some, ad_add] at Hcut
            (go_wp2_with (first | (at_builtin; refine wpList_append_Own (ok := fun _ => True) (R := strR) _ rfl (.tmp 25) (.tmp 28) 45 rfl 9 i0 _ 16 Z.heap.size Tryd.underlying45 hi0 hz0 hz1 hz2 rfl (by decide) rfl (Own.new_nil (blk_new _ _) (Nat.le_refl _)) _ j _ (l.take j) rfl (Sl.flat_src strR_flat ((HslZ.out.to_ hj).alloc _)) (by omega) (by decide) (by simp) ?_; intro A5 c5 w5 hown5 hg5 hat5; have hx5 : Ext Z w5 := Keeps.grown (Keeps.alloc (Keeps.refl _ _) _) hg5 (fun g hg hl => by have h9 : some Z.heap.size = some g := hg; injection h9 with h9; omega); simp only [Nat.zero_add, List.nil_append] at hown5; have hz5 := hx5.size; have Hown5 := Lib.hid hown5; have Hx5 := Lib.hid hx5; clear hown5 hg5 hat5 hx5) | (at_builtin; refine wpList_append_Own (ok := fun _ => True) (R := strR) _ rfl (.tmp 29) (.tmp 31) 45 rfl 9 i0 _ 16 Z.heap.size Tryd.underlying45 hi0 hz0 hz1 hz2 rfl (by decide) rfl (Hown5.out.alloc _) _ 1 1 [s] rfl (Srcs.one_new rfl (by first | exact blk_new _ _ | exact blk_new_ _ _ (by simp)) rfl) (by omega) (by decide) (by first | omega | (simp; omega)) ?_; intro A6 c6 w6 hown6 hg6 hat6; have hx6 : Ext Z w6 := Keeps.grown (Keeps.alloc Hx5.out _) hg6 (fun g hg hl => by have := (Hown5.out.lt g hg).1; omega); have Hown6 := Lib.hid hown6; have Hx6 := Lib.hid hx6; have hz6 := hx6.size; clear hown6 hg6 hat6 hx6) | (at_builtin; refine wpList_append_Own (ok := fun _ => True) (R := strR) _ rfl (.tmp 33) (.tmp 36) 45 rfl 9 i0 _ 16 Z.heap.size Tryd.underlying45 hi0 hz0 hz1 hz2 rfl (by decide) rfl Hown6.out _ (n - j) _ (l.drop j) rfl (Sl.flat_src strR_flat (Hcut.out.ext Hx6.out)) (by omega) (by decide) (by omega) ?_; intro A7 c7 w7 hown7 hg7 hat7; have Hown7 := Lib.hid hown7; have Hx7 := Lib.hid (show Ext Z w7 from Keeps.grown Hx6.out hg7 (fun g hg hl => by have := (Hown6.out.lt g hg).1; omega)); clear hown7 hg7 hat7)); go_ret; exact ⟨A7, _, c7, rfl, by omega, l.take j ++ [s] ++ l.drop j, Hmem.out, ⟨_, .inr rfl, Hown7.out.le HZ.out.size⟩, HZ.out.trans Hx7.out⟩)
        · go_wp2_with fail
          go_roundw
          case rel => exact ⟨j + 1, by omega, by go_num, HZ.out⟩
          case measure => simp [intOf]; omega
      · by_cases hcb : c = j
        · rw [if_pos hcb] at Hcut
          (go_wp2_with (first | (at_builtin; refine wpList_append_Own (ok := fun _ => True) (R := strR) _ rfl (.tmp 25) (.tmp 28) 45 rfl 9 i0 _ 16 Z.heap.size Tryd.underlying45 hi0 hz0 hz1 hz2 rfl (by decide) rfl (Own.new_nil (blk_new _ _) (Nat.le_refl _)) _ j _ (l.take j) rfl (Sl.flat_src strR_flat ((HslZ.out.to_ hj).alloc _)) (by omega) (by decide) (by simp) ?_; intro A5 c5 w5 hown5 hg5 hat5; have hx5 : Ext Z w5 := Keeps.grown (Keeps.alloc (Keeps.refl _ _) _) hg5 (fun g hg hl => by have h9 : some Z.heap.size = some g := hg; injection h9 with h9; omega); simp only [Nat.zero_add, List.nil_append] at hown5; have hz5 := hx5.size; have Hown5 := Lib.hid hown5; have Hx5 := Lib.hid hx5; clear hown5 hg5 hat5 hx5) | (at_builtin; refine wpList_append_Own (ok := fun _ => True) (R := strR) _ rfl (.tmp 29) (.tmp 31) 45 rfl 9 i0 _ 16 Z.heap.size Tryd.underlying45 hi0 hz0 hz1 hz2 rfl (by decide) rfl (Hown5.out.alloc _) _ 1 1 [s] rfl (Srcs.one_new rfl (by first | exact blk_new _ _ | exact blk_new_ _ _ (by simp)) rfl) (by omega) (by decide) (by first | omega | (simp; omega)) ?_; intro A6 c6 w6 hown6 hg6 hat6; have hx6 : Ext Z w6 := Keeps.grown (Keeps.alloc Hx5.out _) hg6 (fun g hg hl => by have := (Hown5.out.lt g hg).1; omega); have Hown6 := Lib.hid hown6; have Hx6 := Lib.hid hx6; have hz6 := hx6.size; clear hown6 hg6 hat6 hx6) | (at_builtin; refine wpList_append_Own (ok := fun _ => True) (R := strR) _ rfl (.tmp 33) (.tmp 36) 45 rfl 9 i0 _ 16 Z.heap.size Tryd.underlying45 hi0 hz0 hz1 hz2 rfl (by decide) rfl Hown6.out _ (n - j) _ (l.drop j) rfl (Sl.flat_src strR_flat (Hcut.out.ext Hx6.out)) (by omega) (by decide) (by omega) ?_; intro A7 c7 w7 hown7 hg7 hat7; have Hown7 := Lib.hid hown7; have Hx7 := Lib.hid (show Ext Z w7 from Keeps.grown Hx6.out hg7 (fun g hg hl => by have := (Hown6.out.lt g hg).1; omega)); clear hown7 hg7 hat7)); go_ret; exact ⟨A7, _, c7, rfl, by omega, l.take j ++ [s] ++ l.drop j, Hmem.out, ⟨_, .inr rfl, Hown7.out.le HZ.out.size⟩, HZ.out.trans Hx7.out⟩)
        · rw [if_neg hcb] at Hcut
          (go_wp2_with (first | (at_builtin; refine wpList_append_Own (ok := fun _ => True) (R := strR) _ rfl (.tmp 25) (.tmp 28) 45 rfl 9 i0 _ 16 Z.heap.size Tryd.underlying45 hi0 hz0 hz1 hz2 rfl (by decide) rfl (Own.new_nil (blk_new _ _) (Nat.le_refl _)) _ j _ (l.take j) rfl (Sl.flat_src strR_flat ((HslZ.out.to_ hj).alloc _)) (by omega) (by decide) (by simp) ?_; intro A5 c5 w5 hown5 hg5 hat5; have hx5 : Ext Z w5 := Keeps.grown (Keeps.alloc (Keeps.refl _ _) _) hg5 (fun g hg hl => by have h9 : some Z.heap.size = some g := hg; injection h9 with h9; omega); simp only [Nat.zero_add, List.nil_append] at hown5; have hz5 := hx5.size; have Hown5 := Lib.hid hown5; have Hx5 := Lib.hid hx5; clear hown5 hg5 hat5 hx5) | (at_builtin; refine wpList_append_Own (ok := fun _ => True) (R := strR) _ rfl (.tmp 29) (.tmp 31) 45 rfl 9 i0 _ 16 Z.heap.size Tryd.underlying45 hi0 hz0 hz1 hz2 rfl (by decide) rfl (Hown5.out.alloc _) _ 1 1 [s] rfl (Srcs.one_new rfl (by first | exact blk_new _ _ | exact blk_new_ _ _ (by simp)) rfl) (by omega) (by decide) (by first | omega | (simp; omega)) ?_; intro A6 c6 w6 hown6 hg6 hat6; have hx6 : Ext Z w6 := Keeps.grown (Keeps.alloc Hx5.out _) hg6 (fun g hg hl => by have := (Hown5.out.lt g hg).1; omega); have Hown6 := Lib.hid hown6; have Hx6 := Lib.hid hx6; have hz6 := hx6.size; clear hown6 hg6 hat6 hx6) | (at_builtin; refine wpList_append_Own (ok := fun _ => True) (R := strR) _ rfl (.tmp 33) (.tmp 36) 45 rfl 9 i0 _ 16 Z.heap.size Tryd.underlying45 hi0 hz0 hz1 hz2 rfl (by decide) rfl Hown6.out _ (n - j) _ (l.drop j) rfl (Sl.flat_src strR_flat (Hcut.out.ext Hx6.out)) (by omega) (by decide) (by omega) ?_; intro A7 c7 w7 hown7 hg7 hat7; have Hown7 := Lib.hid hown7; have Hx7 := Lib.hid (show Ext Z w7 from Keeps.grown Hx6.out hg7 (fun g hg hl => by have := (Hown6.out.lt g hg).1; omega)); clear hown7 hg7 hat7)); go_ret; exact ⟨A7, _, c7, rfl, by omega, l.take j ++ [s] ++ l.drop j, Hmem.out, ⟨_, .inr rfl, Hown7.out.le HZ.out.size⟩, HZ.out.trans Hx7.out⟩)
  · have Hin := Lib.hid (Hb1.out rfl)
    go_wp2_with fail
    go_ret
    refine ⟨A, n, c, rfl, by omega, l, fun x => ⟨.inl, fun h => h.elim id fun h => by rw [h]; exact Hin.out⟩, ⟨base, .inl rfl, Hs.out.ext Hx1.out⟩, Hx1.out⟩
theorem imp_any {x : List Ev} {T : ByteArray} (h : T = textB (allE x)) : impS T = (allE x, 0, 0) := by rw [h]; exact imp_all x
/-- Texts of events, merged: the text of all. -/
theorem merge_all (a b : List Ev) : mergeS (textB (allE a)) (textB (allE b)) = (textB (allE (allE a ++ allE b)), 0, 0) := by
  unfold mergeS
  rw [imp_all, imp_all]
  rfl
theorem merge_alike {a b : List Ev} (h : Alike (a ++ b)) : mergeS (textB (allE a)) (textB (allE b)) = (textB (allE (a ++ b)), 0, 0) := by
  rw [merge_all, allE_two h]
theorem alike_sub {l m : List Ev} (h : Alike l) (hs : ∀ e ∈ m, e ∈ l) : Alike m := fun a ha b hb => h a (hs a ha) b (hs b hb)
set_option maxRecDepth 100000 in
theorem ex_Merge_all (a b : List Ev) (w : World) (ha : a.length ≤ 60) (hb : b.length ≤ 60) (hal : Alike (a ++ b)) (hv : Vars w) (TA TB TC : ByteArray) (h1 : TA = textB (allE a)) (h2 : TB = textB (allE b)) (h3 : TC = textB (allE (a ++ b))) :
    Calls Tryd.prog 25 #[.string TA, .string TB] w fun r w' => r = .returned (.tuple #[.string TC, .int .i64 0, .int .i64 0]) ∧ Ext w w' := by
  have hla : (impS TA).1.length ≤ 50000 := by rw [imp_any h1]; have := allE_len a; show (allE a).length ≤ _; omega
  have hlb : (impS TB).1.length ≤ 50000 := by rw [imp_any h2]; have := allE_len b; show (allE b).length ≤ _; omega
  have := ex_Merge TA TB w (by rw [h1]; exact text_size ha) (by rw [h2]; exact text_size hb) hla hlb hv
  rw [h1, h2, merge_alike hal, ← h1, ← h2, ← h3] at this
  exact this
end Go.Proofs.YtmhkgfoimkonoaaDoor
