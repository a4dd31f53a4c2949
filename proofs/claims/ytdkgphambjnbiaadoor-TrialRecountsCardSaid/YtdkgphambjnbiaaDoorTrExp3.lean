/-
  What is proved here: who is exposed is noted in a book, at the first tick. Conditions: at most a thousand trials, no text is longer than a text can be.
-/
import Derived.Test.YtdkgphambjnbiaaDoorTrExp2
import Derived.Laws.Cover3
namespace Go.Proofs.YtdkgphambjnbiaaDoor
open Go Go.RowKit Go.Proofs
attribute [local go_sem ↓] Go.wp_at_zero Go.wp_at_succ

theorem eq_map_nil (m : Option Nat) (w : World) : (binOp .eql 79 (.map m) (.map none)).run Tryd.prog w = .ok (.bool m.isNone) w := by
  simp only [binOp]
  simp [run_equal_map_nil w 79 _ _ m Tryd.underlying79]
theorem put_m {W : World} {m : Nat} {outer : List (ByteArray × Nat)} (h : Mp (strK (P := Tryd.prog) (kt := 9) Tryd.underlying9) mapV W m outer) (name : ByteArray) (x : Nat) :
    ∃ w', (Instr.mapUpdate 80 (.map (some m)) (.string name) (.map (some x))).run Tryd.prog W = .ok () w' ∧ Mp (strK (P := Tryd.prog) (kt := 9) Tryd.underlying9) mapV w' m (putM (fun a b : ByteArray => a == b) outer name x) ∧ Keeps (fun i => i ≠ m) W w' := by
  obtain ⟨w', h1, h2, h3, _⟩ := h.put Tryd.underlying80 name x
  exact ⟨w', h1, h2, h3⟩
theorem put_i {W : World} {m : Nat} {l : List (ByteArray × Int)} (h : Mp (strK (P := Tryd.prog) (kt := 9) Tryd.underlying9) intV W m l) (name : ByteArray) (x : Int) :
    ∃ w', (Instr.mapUpdate 79 (.map (some m)) (.string name) (.int .i64 x)).run Tryd.prog W = .ok () w' ∧ Mp (strK (P := Tryd.prog) (kt := 9) Tryd.underlying9) intV w' m (putM (fun a b : ByteArray => a == b) l name x) ∧ Keeps (fun i => i ≠ m) W w' := by
  obtain ⟨w', h1, h2, h3, _⟩ := h.put Tryd.underlying79 name x
  exact ⟨w', h1, h2, h3⟩
theorem getM_put_new {β : Type} {l : List (ByteArray × β)} {k : ByteArray} {v : β} (h : getM (fun a b : ByteArray => a == b) l k = none) (hnd : (l.map (·.1)).Nodup) : getM (fun a b : ByteArray => a == b) (putM (fun a b : ByteArray => a == b) l k v) k = some v := by
  rw [putM_none h]
  refine getM_of_mem ?_ (by simp)
  rw [List.map_append, List.nodup_append]
  refine ⟨hnd, by simp, fun x hx y hy e => ?_⟩
  obtain ⟨p, hp, rfl⟩ := List.mem_map.1 hx
  simp at hy
  exact getM_none_iff.1 h p hp (by rw [← hy]; exact e)

set_option maxRecDepth 100000 in
set_option maxHeartbeats 4000000 in
theorem exp_yes (b m lim : Nat) (v : Value) (outer : List (ByteArray × Nat)) (ts : List Tr) (xs : ByteArray → List (ByteArray × Int)) (name person : ByteArray) (a : Int) (w : World) (h : BookX w b m lim v outer ts xs) (hn : ts.length ≤ 1000) (i : Nat) (t : Tr) (hi : ts.findIdx? (fun o => o.name == name) = some i) (ht : ts[i]? = some t) (hwf : TrWf t) (hp : person.size ≤ maxLen) (hpl : person.size < maxLen) (he : expT t person a = true) :
    Calls Tryd.prog 24 #[.pointer (some ⟨b, 0, none⟩), .string name, .string person, .int .i64 a] w (ExpPost w b m lim v outer ts xs name person a) := by
  have Hf := Lib.hid (bk_find_yes b m lim v outer ts xs name w h hn i t hi ht)
  have Hwf := Lib.hid hwf
  simp only [expT, Bool.and_eq_true, decide_eq_true_eq] at he
  obtain ⟨⟨⟨hnm, h1⟩, h2⟩, hin⟩ := he
  have hmb := h.mb
  have hbl := h.bl
  have hlw := h.lw
  have Hh := Lib.hid h
  have hmm := @run_makeMap Tryd.prog
  have hE0 := eq_map_nil none
  have hE1 := fun (k : Nat) => eq_map_nil (some k)
  simp only [Option.isNone_none, Option.isNone_some] at hE0 hE1
  clear h hi ht hwf
  cases hg : getM (fun a b : ByteArray => a == b) outer name with
  | none =>
    have Hg := Lib.hid hg
    have Hxn := Lib.hid (show xs name = [] from Hh.out.none name hg)
    clear hg
    go_enter Tryd.func24, Tryd.ntmps24
    go_wp2_with (first | (go_at_call 39; refine Hf.out.mono ?_; rintro _ w1 ⟨A, c, rfl, hc, hs1, hx1⟩; have Hx1 := Lib.hid hx1; have Hs1 := Lib.hid hs1; clear hx1 hs1) | (go_at_call 34; refine (event_Name _ _ hp).mono ?_; rw [hnm]; rintro _ w' ⟨rfl, rfl⟩))
    refine (tr_Arm t person A c _ _ ((Hs1.out.ext Hx1.out).alloc _) hc Hwf.out hpl).mono ?_
    rw [hin]
    rintro _ W ⟨rfl, hx2⟩
    have Hx2 := Lib.hid (Keeps.trans (Hx1.out.alloc _) hx2)
    clear hx2
    have hB := Hh.out.ext Hx2.out
    have q1 := blk_cell hB.blk 1 rfl
    have hWs := hB.lw
    have hsW : w.heap.size ≤ W.heap.size := Hx2.out.size
    have L1 := look_m hB.mp name none Hg.out
    obtain ⟨w4, P1, hmp4, hk4⟩ := put_m (hB.mp.ext ((Keeps.refl _ W).alloc (.map #[] 0))) name W.heap.size
    have hb4 := hk4.blk (blk_old hB.blk (.map #[] 0)) (by omega)
    have q4 := blk_cell hb4 1 rfl
    have L3 := look_m hmp4 name (some W.heap.size) (getM_put_new Hg.out hB.mp.keys)
    have hmi : Mp (strK (P := Tryd.prog) (kt := 9) Tryd.underlying9) intV w4 W.heap.size [] := (Mp.new W).keep hk4 (by omega)
    have L4 := look_i hmi person none rfl
    obtain ⟨w5, P2, hm5, hk5⟩ := put_i hmi person a
    simp only [Option.getD_none, Option.isSome_none] at L4
    have HB := Lib.hid hB
    have Hmp4 := Lib.hid hmp4
    have Hk4 := Lib.hid hk4
    have Hm5 := Lib.hid hm5
    have Hk5 := Lib.hid hk5
    clear hB hmp4 hk4 hb4 hmi hm5 hk5
    go_wp2_with fail
    go_ret
    have hkW : Keeps (fun i => i ≠ m) W w4 := Keeps.trans ((Keeps.refl _ _).alloc _) Hk4.out
    refine ⟨rfl, outer ++ [(name, W.heap.size)], ?_, ?_, fun p hp => ?_⟩
    · rw [Hxn.out]
      exact book_new HB.out Hg.out hkW Hmp4.out Hk5.out Hm5.out
    · exact Keeps.then_ (Ext.keeps Hx2.out _) (Keeps.then_ (ok := fun i => i ≠ m ∧ i ≠ W.heap.size) (hkW.mono (fun _ _ h => h.1)) Hk5.out (fun _ _ h => h.2)) (fun i hi h => ⟨h.1, by omega⟩)
    · rcases List.mem_append.1 hp with hp | hp
      · exact .inl hp
      · simp at hp; subst hp; exact .inr hsW
  | some mi =>
    have Hg := Lib.hid hg
    have hfar := Hh.out.far _ (getM_mem hg)
    simp only at hfar
    have Hout := Lib.hid (getM_mem hg)
    clear hg
    cases hg2 : getM (fun a b : ByteArray => a == b) (xs name) person with
    | none =>
      have Hpm := Lib.hid (show putMin (xs name) person a = putM (fun a b : ByteArray => a == b) (xs name) person a by unfold putMin; rw [hg2])
      have Hg2 := Lib.hid hg2
      clear hg2
      go_enter Tryd.func24, Tryd.ntmps24
      go_wp2_with (first | (go_at_call 39; refine Hf.out.mono ?_; rintro _ w1 ⟨A, c, rfl, hc, hs1, hx1⟩; have Hx1 := Lib.hid hx1; have Hs1 := Lib.hid hs1; clear hx1 hs1) | (go_at_call 34; refine (event_Name _ _ hp).mono ?_; rw [hnm]; rintro _ w' ⟨rfl, rfl⟩))
      refine (tr_Arm t person A c _ _ ((Hs1.out.ext Hx1.out).alloc _) hc Hwf.out hpl).mono ?_
      rw [hin]
      rintro _ W ⟨rfl, hx2⟩
      have Hx2 := Lib.hid (Keeps.trans (Hx1.out.alloc _) hx2)
      clear hx2
      have hB := Hh.out.ext Hx2.out
      have q1 := blk_cell hB.blk 1 rfl
      have hWs := hB.lw
      have hsW : w.heap.size ≤ W.heap.size := Hx2.out.size
      have L1 := look_m hB.mp name (some mi) Hg.out
      have hmi := hB.inn _ Hout.out
      simp only at hmi
      have L4 := look_i hmi person none Hg2.out
      obtain ⟨w5, P2, hm5, hk5⟩ := put_i hmi person a
      simp only [Option.getD_none, Option.isSome_none] at L4
      have HB := Lib.hid hB
      have Hm5 := Lib.hid hm5
      have Hk5 := Lib.hid hk5
      clear hB hmi hm5 hk5
      go_wp2_with fail
      go_ret
      refine ⟨rfl, outer, ?_, ?_, fun p hp => .inl hp⟩
      · rw [Hpm.out]
        exact book_inner HB.out Hg.out Hk5.out Hm5.out
      · exact Keeps.then_ (Ext.keeps Hx2.out _) Hk5.out (fun i hi h => fun e => h.2 _ Hout.out e.symm)
    | some s =>
      have Hg2 := Lib.hid hg2
      by_cases has : a < s
      · have Hpm := Lib.hid (show putMin (xs name) person a = putM (fun a b : ByteArray => a == b) (xs name) person a by unfold putMin; rw [hg2]; simp only; rw [if_pos has])
        clear hg2
        go_enter Tryd.func24, Tryd.ntmps24
        go_wp2_with (first | (go_at_call 39; refine Hf.out.mono ?_; rintro _ w1 ⟨A, c, rfl, hc, hs1, hx1⟩; have Hx1 := Lib.hid hx1; have Hs1 := Lib.hid hs1; clear hx1 hs1) | (go_at_call 34; refine (event_Name _ _ hp).mono ?_; rw [hnm]; rintro _ w' ⟨rfl, rfl⟩))
        refine (tr_Arm t person A c _ _ ((Hs1.out.ext Hx1.out).alloc _) hc Hwf.out hpl).mono ?_
        rw [hin]
        rintro _ W ⟨rfl, hx2⟩
        have Hx2 := Lib.hid (Keeps.trans (Hx1.out.alloc _) hx2)
        clear hx2
        have hB := Hh.out.ext Hx2.out
        have q1 := blk_cell hB.blk 1 rfl
        have hWs := hB.lw
        have hsW : w.heap.size ≤ W.heap.size := Hx2.out.size
        have L1 := look_m hB.mp name (some mi) Hg.out
        have hmi := hB.inn _ Hout.out
        simp only at hmi
        have L4 := look_i hmi person (some s) Hg2.out
        obtain ⟨w5, P2, hm5, hk5⟩ := put_i hmi person a
        simp only [Option.getD_some, Option.isSome_some] at L4
        have HB := Lib.hid hB
        have Hm5 := Lib.hid hm5
        have Hk5 := Lib.hid hk5
        clear hB hmi hm5 hk5
        go_wp2_with fail
        go_ret
        refine ⟨rfl, outer, ?_, ?_, fun p hp => .inl hp⟩
        · rw [Hpm.out]
          exact book_inner HB.out Hg.out Hk5.out Hm5.out
        · exact Keeps.then_ (Ext.keeps Hx2.out _) Hk5.out (fun i hi h => fun e => h.2 _ Hout.out e.symm)
      · have Hpm := Lib.hid (show putMin (xs name) person a = xs name by unfold putMin; rw [hg2]; simp only; rw [if_neg has])
        clear hg2
        go_enter Tryd.func24, Tryd.ntmps24
        go_wp2_with (first | (go_at_call 39; refine Hf.out.mono ?_; rintro _ w1 ⟨A, c, rfl, hc, hs1, hx1⟩; have Hx1 := Lib.hid hx1; have Hs1 := Lib.hid hs1; clear hx1 hs1) | (go_at_call 34; refine (event_Name _ _ hp).mono ?_; rw [hnm]; rintro _ w' ⟨rfl, rfl⟩))
        refine (tr_Arm t person A c _ _ ((Hs1.out.ext Hx1.out).alloc _) hc Hwf.out hpl).mono ?_
        rw [hin]
        rintro _ W ⟨rfl, hx2⟩
        have Hx2 := Lib.hid (Keeps.trans (Hx1.out.alloc _) hx2)
        clear hx2
        have hB := Hh.out.ext Hx2.out
        have q1 := blk_cell hB.blk 1 rfl
        have hWs := hB.lw
        have hsW : w.heap.size ≤ W.heap.size := Hx2.out.size
        have L1 := look_m hB.mp name (some mi) Hg.out
        have hmi := hB.inn _ Hout.out
        simp only at hmi
        have L4 := look_i hmi person (some s) Hg2.out
        simp only [Option.getD_some, Option.isSome_some] at L4
        have HB := Lib.hid hB
        clear hB hmi
        go_wp2_with fail
        go_ret
        refine ⟨rfl, outer, ?_, ?_, fun p hp => .inl hp⟩
        · rw [Hpm.out, setX_id]
          exact HB.out
        · exact Ext.keeps Hx2.out _
end Go.Proofs.YtdkgphambjnbiaaDoor
