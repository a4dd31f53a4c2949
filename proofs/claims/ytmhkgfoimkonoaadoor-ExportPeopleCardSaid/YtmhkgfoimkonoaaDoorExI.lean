/-
  What is proved here: what the lines of a text are imported to; and back. No program is in sight. No condition but those told.
  what is wrong with the event of a line, as the program tells it. Conditions: at most a million events.
-/
import Derived.Test.YtmhkgfoimkonoaaDoorExO
import Derived.Test.YtmhkgfoimkonoaaDoorEvParQ
import Derived.Test.YtmhkgfoimkonoaaDoorExJ
namespace Go.Proofs.YtmhkgfoimkonoaaDoor
open Go Go.RowKit
/-- What is wrong with the event of a line, by those of the lines ahead. -/
def wrongE (out : List Ev) (e : Ev) : Int := if out.getLast?.any (fun z => !lessE z e) then 10 else if out.any (fun x => sameE x e) then 7 else 0
def impL : List (List UInt8) → List Ev → List Ev × Int × Int
  | [], out => (out, 0, 0)
  | [p], out => if p.isEmpty then (out, 0, 0) else ([], (out.length : Int) + 1, 2)
  | p :: q :: ps, out => match parseE (bts p) with
    | none => ([], (out.length : Int) + 1, 2)
    | some e => if wrongE out e = 0 then impL (q :: ps) (out ++ [e]) else ([], (out.length : Int) + 1, wrongE out e)
def impS (s : ByteArray) : List Ev × Int × Int := impL (partsL 10 s.data.toList) []
theorem impL_end (out : List Ev) : impL (partsL 10 []) out = (out, 0, 0) := rfl
theorem impL_torn {l : List UInt8} (h : freeL 10 l) (h0 : l ≠ []) (out : List Ev) : impL (partsL 10 l) out = ([], (out.length : Int) + 1, 2) := by
  rw [partsL_none h]
  unfold impL
  rw [if_neg (by simpa using h0)]
theorem impL_none {a r : List UInt8} (h : freeL 10 a) (hp : parseE (bts a) = none) (out : List Ev) : impL (partsL 10 (a ++ 10 :: r)) out = ([], (out.length : Int) + 1, 2) := by
  rw [partsL_hit h]
  cases hq : partsL 10 r with
  | nil => exact absurd hq (parts_ne 10 r)
  | cons q ps => simp only [impL, hp]
theorem impL_some {a r : List UInt8} (h : freeL 10 a) {e : Ev} (hp : parseE (bts a) = some e) (out : List Ev) : impL (partsL 10 (a ++ 10 :: r)) out = if wrongE out e = 0 then impL (partsL 10 r) (out ++ [e]) else ([], (out.length : Int) + 1, wrongE out e) := by
  rw [partsL_hit h]
  cases hq : partsL 10 r with
  | nil => exact absurd hq (parts_ne 10 r)
  | cons q ps => simp only [impL, hp]
theorem wrong_zero {out : List Ev} {e : Ev} (h : wrongE out e = 0) : (∀ z, out.getLast? = some z → lessE z e = true) ∧ ∀ x ∈ out, sameE x e = false := by
  unfold wrongE at h
  split at h
  · cases h
  · rename_i h1
    split at h
    · cases h
    · rename_i h2
      refine ⟨fun z hz => ?_, fun x hx => ?_⟩
      · rw [hz] at h1
        simpa using h1
      · have := List.any_eq_false.1 (Bool.not_eq_true _ ▸ h2) x hx
        simpa using this
theorem wrong_none {out : List Ev} {e : Ev} (h1 : ∀ z, out.getLast? = some z → lessE z e = true) (h2 : ∀ x ∈ out, sameE x e = false) : wrongE out e = 0 := by
  unfold wrongE
  rw [if_neg, if_neg]
  · rw [Bool.not_eq_true, List.any_eq_false]
    intro x hx; rw [h2 x hx]; decide
  · cases hl : out.getLast? with
    | none => simp
    | some z => simp [h1 z hl]
theorem asc_snoc {out : List Ev} {e : Ev} (h : Asc out) (h1 : ∀ z, out.getLast? = some z → lessE z e = true) : Asc (out ++ [e]) := by
  refine List.pairwise_append.2 ⟨h, List.pairwise_singleton _ _, fun a ha b hb => ?_⟩
  rw [List.mem_singleton.1 hb]
  rcases List.eq_nil_or_concat out with h9 | ⟨u, z, h9⟩
  · rw [h9] at ha; cases ha
  · rw [List.concat_eq_append] at h9
    subst h9
    have hz := h1 z (by simp)
    rcases List.mem_append.1 ha with ha | ha
    · exact lessE_trans ((List.pairwise_append.1 h).2.2 a ha z (by simp)) hz
    · rw [List.mem_singleton.1 ha]; exact hz
theorem ids_snoc {out : List Ev} {e : Ev} (h : Ids out) (h1 : ∀ x ∈ out, sameE x e = false) : Ids (out ++ [e]) :=
  List.pairwise_append.2 ⟨h, List.pairwise_singleton _ _, fun a ha b hb => by rw [List.mem_singleton.1 hb]; exact h1 a ha⟩
/-- What a text comes to that is imported: events in order, that may be, of unlike identities; their text is it. -/
theorem imp_ok : ∀ (n : Nat) (l : List UInt8) (out : List Ev), l.length ≤ n → l.length ≤ 999999 → Asc out → Ids out → (∀ e ∈ out, mayE e = true) → (impL (partsL 10 l) out).2.2 = 0 →
    ∃ es, (impL (partsL 10 l) out).1 = out ++ es ∧ (impL (partsL 10 l) out).2.1 = 0 ∧ Asc (out ++ es) ∧ Ids (out ++ es) ∧ (∀ e ∈ out ++ es, mayE e = true) ∧ textL es = l := by
  intro n
  induction n with
  | zero =>
    intro l out hn _ ha hi hm _
    have : l = [] := List.eq_nil_of_length_eq_zero (Nat.le_zero.1 hn)
    subst this
    exact ⟨[], by rw [impL_end]; simp, by rw [impL_end], by simpa using ha, by simpa using hi, by simpa using hm, rfl⟩
  | succ n ih =>
    intro l out hn hl ha hi hm h0
    rcases cut_cases 10 l with h | ⟨a, r, h, rfl⟩
    · by_cases hnil : l = []
      · subst hnil
        exact ⟨[], by rw [impL_end]; simp, by rw [impL_end], by simpa using ha, by simpa using hi, by simpa using hm, rfl⟩
      · rw [impL_torn h hnil] at h0; cases h0
    · cases hp : parseE (bts a) with
      | none => rw [impL_none h hp] at h0; cases h0
      | some e =>
        rw [impL_some h hp] at h0 ⊢
        have hal : (bts a).size ≤ 999999 := by rw [bts_size]; simp at hl; omega
        obtain ⟨hme, hfe⟩ := parseE_some hal hp
        by_cases hw : wrongE out e = 0
        · rw [if_pos hw] at h0 ⊢
          obtain ⟨w1, w2⟩ := wrong_zero hw
          obtain ⟨es, e1, e2, e3, e4, e5, e6⟩ := ih r (out ++ [e]) (by simp at hn; omega) (by simp at hl; omega) (asc_snoc ha w1) (ids_snoc hi w2) (fun x hx => by
            rcases List.mem_append.1 hx with hx | hx
            · exact hm x hx
            · rw [List.mem_singleton.1 hx]; exact hme) h0
          refine ⟨e :: es, by rw [e1]; simp, e2, by simpa using e3, by simpa using e4, by simpa using e5, ?_⟩
          show (fmtE e).data.toList ++ [10] ++ textL es = _
          rw [e6, hfe, bts_data]; simp
        · rw [if_neg hw] at h0
          exact absurd h0 hw
/-! ### an event's text holds no line's end -/
def allGe (l : List UInt8) : Prop := ∀ x ∈ l, 32 ≤ x.toNat
theorem ge_nameB {s : ByteArray} (h : nameB s = true) : allGe s.data.toList := by
  intro x hx
  unfold nameB at h
  simp only [Bool.and_eq_true, List.all_eq_true] at h
  have := (okByte_iff x).1 (h.2 x hx)
  omega
theorem ge_itoa {a : Int} (ha : 0 ≤ a) : allGe (itoaB a).data.toList := by
  obtain ⟨u, rfl⟩ : ∃ u : Nat, a = u := ⟨a.toNat, by omega⟩
  intro x hx
  have hx' : x ∈ Lib.decDigits u := by rw [← Lib.itoa_nonneg]; simpa [itoaB] using hx
  have := (digits_val u).2 x hx'
  omega
theorem ge_none {s : ByteArray} (h : noneB s = true) : allGe s.data.toList := by rw [noneB_eq h]; intro x hx; simp at hx
theorem ge_label {s : ByteArray} (h : labelB s = true) : allGe s.data.toList := by
  obtain ⟨h1, h2, h3, h4⟩ := label_parts h
  rcases cut_cases 59 s.data.toList with hf | ⟨a, r, hf, e⟩
  · unfold semiB at h1; rw [(cut_none hf).2.2] at h1; cases h1
  · have ha : allGe a := by
      have := ge_nameB h2
      unfold makerB at this
      rw [e, (cut_hit hf).1] at this
      simpa [bts] using this
    intro x hx
    rw [e] at hx
    rcases List.mem_append.1 hx with hx | hx
    · exact ha x hx
    · rcases List.mem_cons.1 hx with hx | hx
      · rw [hx]; decide
      · have hr : r ≠ [] := fun h => by rw [h] at hx; cases hx
        rw [tagsB_some hf e hr] at h4
        rcases parts_all 44 r x hx with h | ⟨p, hp, hxp⟩
        · rw [h]; decide
        · have := ge_nameB (h4 (bts p) (List.mem_map.2 ⟨p, hp, rfl⟩))
          exact this x (by simpa [bts] using hxp)
theorem ge_dot {s : ByteArray} (h : allGe s.data.toList) : allGe (dotB s).data.toList := by
  unfold dotB
  split
  · intro x hx
    simp at hx
    rw [hx]; decide
  · exact h
theorem ge_kinds : ∀ i : Fin 15, ∀ x ∈ (kindsB.getD i ⟨#[]⟩).data.toList, 32 ≤ x.toNat := by decide +kernel
theorem ge_join {l : List (List UInt8)} (h : ∀ x ∈ l, allGe x) : allGe (Lib.join l [32]) := by
  induction l with
  | nil => intro x hx; simp [Lib.join] at hx
  | cons a l ih =>
    cases l with
    | nil =>
      have : Lib.join [a] [32] = a := by simp [Lib.join, List.intercalate]
      rw [this]; exact h a (by simp)
    | cons b r =>
      have : Lib.join (a :: b :: r) [32] = a ++ 32 :: Lib.join (b :: r) [32] := by simp [Lib.join, List.intercalate]
      rw [this]
      intro x hx
      rcases List.mem_append.1 hx with hx | hx
      · exact h a (by simp) x hx
      · rcases List.mem_cons.1 hx with hx | hx
        · rw [hx]; decide
        · exact ih (fun y hy => h y (by simp [List.mem_cons.1 hy])) x hx
theorem fmt_free {e : Ev} (h : mayE e = true) : freeL 10 (fmtE e).data.toList := by
  have hF := mayF h
  have hk : allGe (kindsB.getD e.kind.toNat ⟨#[]⟩).data.toList := ge_kinds ⟨e.kind.toNat, by have := hF.kind0; have := hF.kind1; omega⟩
  have hall : allGe (fmtE e).data.toList := by
    have h1 : (fmtE e).data.toList = Lib.join (((wordsE e).map dotB).map (·.data.toList)) [32] := by simp [fmtE]
    rw [h1]
    refine ge_join fun x hx => ?_
    obtain ⟨s, hs, rfl⟩ := List.mem_map.1 hx
    obtain ⟨t, ht, rfl⟩ := List.mem_map.1 hs
    refine ge_dot ?_
    simp only [wordsE, List.mem_cons, List.not_mem_nil, or_false] at ht
    rcases ht with rfl | rfl | rfl | rfl | rfl | rfl | rfl | rfl
    · exact ge_nameB hF.src
    · exact ge_itoa hF.num00
    · exact ge_itoa hF.tick0
    · exact hk
    · exact hF.person.elim ge_nameB ge_none
    · exact hF.item.elim ge_nameB ge_none
    · exact ge_itoa hF.value0
    · exact hF.text.elim ge_nameB (fun h => h.elim ge_none ge_label)
  intro x hx e9
  have := hall x hx
  rw [e9] at this
  exact absurd this (by decide)
/-- The text of events in order is imported to them. -/
theorem imp_text : ∀ (es out : List Ev), Asc (out ++ es) → Ids (out ++ es) → (∀ e ∈ es, mayE e = true) → impL (partsL 10 (textL es)) out = (out ++ es, 0, 0)
  | [], out, _, _, _ => by
    show impL (partsL 10 []) out = _
    rw [impL_end]; simp
  | e :: es, out, ha, hi, hm => by
    have hme := hm e (by simp)
    have ht : textL (e :: es) = (fmtE e).data.toList ++ 10 :: textL es := by unfold textL; simp
    have hp : parseE (bts (fmtE e).data.toList) = some e := by rw [bts_of]; exact parseE_fmt hme
    have ha' : Asc ((out ++ [e]) ++ es) := by simpa using ha
    have hi' : Ids ((out ++ [e]) ++ es) := by simpa using hi
    have hw : wrongE out e = 0 := by
      refine wrong_none (fun z hz => ?_) (fun x hx => ?_)
      · have h1 := (List.pairwise_append.1 (List.pairwise_append.1 ha').1).2.2 z (List.mem_of_getLast? hz) e (by simp)
        exact h1
      · exact (List.pairwise_append.1 (List.pairwise_append.1 hi').1).2.2 x hx e (by simp)
    rw [ht, impL_some (fmt_free hme) hp, if_pos hw, imp_text es (out ++ [e]) ha' hi' (fun x hx => hm x (by simp [hx]))]
    simp
end Go.Proofs.YtmhkgfoimkonoaaDoor
namespace Go.Proofs.YtmhkgfoimkonoaaDoor
open Go Go.RowKit Go.Proofs
attribute [local go_sem ↓] Go.wp_at_zero Go.wp_at_succ
theorem idT_export : IdT Tryd.prog 73 (idF0 "cicerone/export") (idF1 "cicerone/export") := ⟨Tryd.underlying73, by decide, by decide, Tryd.underlying9, Tryd.underlying3, rfl, rfl, by kernel_rfl⟩
def hadV (b : Bool) : Value := .bool b
def hadL (es : List Ev) : List (Idt × Bool) := es.map fun e => (idE e, true)
theorem zero_bool (w : World) : (zeroValue 4).run Tryd.prog w = .ok (.bool false) w := by kernel_rfl
theorem hadL_any (es : List Ev) (e : Ev) : (hadL es).any (fun p => (fun a b : Idt => a.1 == b.1 && a.2 == b.2) (idE e) p.1) = es.any (fun x => sameE x e) := by
  unfold hadL
  rw [List.any_map]
  congr 1
  funext x; exact idE_eqb e x
theorem hadL_get (es : List Ev) (e : Ev) : getM (fun a b : Idt => a.1 == b.1 && a.2 == b.2) (hadL es) (idE e) = if es.any (fun x => sameE x e) then some true else none := by
  rw [← hadL_any]
  unfold getM
  cases h : (hadL es).any (fun p => (fun a b : Idt => a.1 == b.1 && a.2 == b.2) (idE e) p.1)
  · have : (hadL es).find? (fun p => (fun a b : Idt => a.1 == b.1 && a.2 == b.2) (idE e) p.1) = none := by
      rw [List.find?_eq_none]
      intro x hx
      have := List.any_eq_false.1 h x hx
      simpa using this
    rw [this]; rfl
  · cases hf : (hadL es).find? (fun p => (fun a b : Idt => a.1 == b.1 && a.2 == b.2) (idE e) p.1) with
    | none =>
      obtain ⟨x, hx, hp⟩ := List.any_eq_true.1 h
      exact absurd hp (List.find?_eq_none.1 hf x hx)
    | some p =>
      have hm := List.mem_of_find?_eq_some hf
      obtain ⟨x, _, rfl⟩ := List.mem_map.1 hm
      rfl
theorem look_h {W : World} {m : Nat} {es : List Ev} (h : Mp (idK idT_export) hadV W m (hadL es)) (e : Ev) {b : Bool} (hb : es.any (fun x => sameE x e) = b) :
    (Instr.lookup 66 (.map (some m)) (.agg #[.string e.src, .int .i64 e.num]) false).run Tryd.prog W = .ok (.bool b) W := by
  have := h.look Tryd.underlying66 (zero_bool W) (idE e) false
  rw [show getM ((idK idT_export)).eq (hadL es) (idE e) = _ from hadL_get es e, hb] at this
  rw [show (Value.agg #[.string e.src, .int .i64 e.num]) = ((idK idT_export)).of (idE e) from rfl, this]
  cases b <;> rfl
theorem put_h {W : World} {m : Nat} {es : List Ev} (h : Mp (idK idT_export) hadV W m (hadL es)) (e : Ev) (hn : ∀ x ∈ es, sameE x e = false) :
    ∃ w', (Instr.mapUpdate 66 (.map (some m)) (.agg #[.string e.src, .int .i64 e.num]) (.bool true)).run Tryd.prog W = .ok () w' ∧ Mp (idK idT_export) hadV w' m (hadL (es ++ [e])) ∧ Keeps (fun i => i ≠ m) W w' := by
  obtain ⟨w', h1, h2, h3, _⟩ := h.put Tryd.underlying66 (idE e) true
  refine ⟨w', h1, ?_, h3⟩
  have hp : putM ((idK idT_export)).eq (hadL es) (idE e) true = hadL (es ++ [e]) := by
    unfold putM
    have ha : (hadL es).any (fun p => ((idK idT_export)).eq (idE e) p.1) = false := (hadL_any es e).trans (by rw [List.any_eq_false]; intro x hx; rw [hn x hx]; decide)
    rw [ha]
    simp [hadL]
  rw [← hp]; exact h2
set_option maxRecDepth 100000 in
set_option maxHeartbeats 4000000 in
theorem ex_wrong (A : Option Addr) (k c : Nat) (es : List Ev) (mb : Nat) (e : Ev) (ok : Nat → Prop) (w : World) (hs : Sl evR ok w A k es) (hmp : Mp (idK idT_export) hadV w mb (hadL es)) (hk : k ≤ 1000000) :
    Calls Tryd.prog 43 #[.slice A k c, .map (some mb), .agg #[.string e.src, .int .i64 e.num, .int .i64 e.tick, .int .i64 e.kind, .string e.person, .string e.item, .int .i64 e.value, .string e.text]] w fun r w' => r = .returned (.int .i64 (wrongE es e)) ∧ Ext w w' := by
  have Hs := Lib.hid hs
  have Hl := Lib.hid hs.1
  have Hmp := Lib.hid hmp
  have Han := Lib.hid (fun (W : World) (b : Bool) (hb : es.any (fun x => sameE x e) = b) (h : Ext w W) => look_h (hmp.ext h) e hb)
  have hk1 : ¬ (1048576 : Int) ≤ (k : Int) := by omega
  have hk2 : decide ((1048576 : Int) ≤ (k : Int)) = false := by simpa using hk1
  clear hs hmp
  rcases Nat.eq_zero_or_pos k with rfl | hpos
  · have hnil : es = [] := List.eq_nil_of_length_eq_zero Hl.out
    subst hnil
    go_enter Tryd.func43, Tryd.ntmps43
    go_wp2_with fail
    obtain ⟨X, hX⟩ : ∃ X, X = w.alloc (.cells #[.string e.src, .int .i64 e.num, .int .i64 e.tick, .int .i64 e.kind, .string e.person, .string e.item, .int .i64 e.value, .string e.text] 30) := ⟨_, rfl⟩
    have HX := Lib.hid (show Ext w X by rw [hX]; exact (Keeps.refl _ _).alloc _)
    have gX := show X.heap[w.heap.size]? = some (.cells #[.string e.src, .int .i64 e.num, .int .i64 e.tick, .int .i64 e.kind, .string e.person, .string e.item, .int .i64 e.value, .string e.text] 30) by rw [hX]; exact blk_new _ _
    rw [← hX]
    have HgX := Lib.hid gX
    clear hX gX
    refine wp_region_ext X (Keeps.refl _ _) (by kernel_rfl) (by kernel_rfl) ?_
    repeat (go_big_quiet_step (fail))
    refine wpQuiet_nil ?_
    rintro _ ⟨y, rfl⟩
    have gy := y.h.blk HgX.out
    have d0 := blk_cell gy 0 rfl
    have d1 := blk_cell gy 1 rfl
    have L := Han.out y.w false rfl (HX.out.trans y.h)
    go_wp2_with fail
    go_ret
    exact ⟨rfl, HX.out.trans y.h⟩
  · obtain ⟨bz, oz, z, rfl, hbz, _, hz, z0, z1, z2, z3, z4, z5, z6, z7⟩ := Hs.out.ev (k := k - 1) (by omega)
    have hlast : es.getLast? = some z := by rw [List.getLast?_eq_getElem?, Hl.out]; exact hz
    have HZ := Lib.hid (show Ev8 w bz (oz + (k - 1) * 8) z from ⟨z0, z1, z2, z3, z4, z5, z6, z7⟩)
    have CC := Lib.hid (fun (W : World) => ev_Compare e z W)
    have q0 : (0 : Int) ≤ (k : Int) - 1 := by omega
    have q1 : (k : Int) - 1 < (k : Int) := by omega
    have q2 : IntKind.i64.wrap ((k : Int) - 1) = (k : Int) - 1 := by rw [IntKind.wrap_i64]; omega
    have q3 : ((k : Int) - 1).toNat = k - 1 := by omega
    have q4 : decide ((0 : Int) < (k : Int)) = true := by simpa using hpos
    have hcz : (cmpE e z = 1 ∧ lessE z e = true) ∨ (cmpE e z ≠ 1 ∧ lessE z e = false) := by
      rcases cmpE_cases e z with ⟨h1, _, _, h4⟩ | ⟨h1, _, _, h4, _⟩ | ⟨h1, _, _, h4⟩
      · exact .inr ⟨by omega, h4⟩
      · exact .inr ⟨by omega, h4⟩
      · exact .inl ⟨h1, h4⟩
    have Hw := Lib.hid (show wrongE es e = if !lessE z e then 10 else if es.any (fun x => sameE x e) then 7 else 0 by unfold wrongE; rw [hlast]; rfl)
    clear hz hlast z0 z1 z2 z3 z4 z5 z6 z7
    obtain ⟨cz, hcz'⟩ : ∃ cz, cz = cmpE e z := ⟨_, rfl⟩
    rw [← hcz'] at CC hcz
    clear hcz'
    go_enter Tryd.func43, Tryd.ntmps43
    go_wp2_with fail
    obtain ⟨X, hX⟩ : ∃ X, X = w.alloc (.cells #[.string e.src, .int .i64 e.num, .int .i64 e.tick, .int .i64 e.kind, .string e.person, .string e.item, .int .i64 e.value, .string e.text] 30) := ⟨_, rfl⟩
    have HX := Lib.hid (show Ext w X by rw [hX]; exact (Keeps.refl _ _).alloc _)
    have gX := show X.heap[w.heap.size]? = some (.cells #[.string e.src, .int .i64 e.num, .int .i64 e.tick, .int .i64 e.kind, .string e.person, .string e.item, .int .i64 e.value, .string e.text] 30) by rw [hX]; exact blk_new _ _
    rw [← hX]
    have HgX := Lib.hid gX
    have hwX := (Array.getElem?_eq_some_iff.1 gX).1
    have e0 := blk_cell gX 0 rfl
    have e1 := blk_cell gX 1 rfl
    have e2 := blk_cell gX 2 rfl
    have e3 := blk_cell gX 3 rfl
    have e4 := blk_cell gX 4 rfl
    have e5 := blk_cell gX 5 rfl
    have e6 := blk_cell gX 6 rfl
    have e7 := blk_cell gX 7 rfl
    obtain ⟨z0, z1, z2, z3, z4, z5, z6, z7⟩ := ev8_ext HX.out hbz HZ.out
    have hbX := Nat.lt_of_lt_of_le hbz HX.out.size
    clear hX gX
    rcases hcz with ⟨rfl, hlz⟩ | ⟨hne, hlz⟩
    · refine wp_region_ext X (Keeps.refl _ _) (by kernel_rfl) (by kernel_rfl) ?_
      have hcell := fun (y : XW X) => y.cell
      repeat (go_big_quiet_step (first | (go_at_call 33; with_reducible exact ext_calls (CC.out _))))
      refine wpQuiet_nil ?_
      rintro _ ⟨y, rfl⟩
      clear hcell e0 e1 e2 e3 e4 e5 e6 e7 z0 z1 z2 z3 z4 z5 z6 z7
      have gy := y.h.blk HgX.out
      have d0 := blk_cell gy 0 rfl
      have d1 := blk_cell gy 1 rfl
      rw [hlz] at Hw
      cases ha : es.any (fun x => sameE x e)
      · have L := Han.out y.w false ha (HX.out.trans y.h)
        rw [ha] at Hw
        clear gy ha
        go_wp2_with fail
        go_ret
        exact ⟨by rw [Hw.out]; rfl, HX.out.trans y.h⟩
      · have L := Han.out y.w true ha (HX.out.trans y.h)
        rw [ha] at Hw
        clear gy ha
        go_wp2_with fail
        go_ret
        exact ⟨by rw [Hw.out]; rfl, HX.out.trans y.h⟩
    · have hne' : (cz != 1) = true := by simpa using hne
      rw [hlz] at Hw
      clear hne
      refine wp_region_ext X (Keeps.refl _ _) (by kernel_rfl) (by kernel_rfl) ?_
      have hcell := fun (y : XW X) => y.cell
      repeat (go_big_quiet_step (first | (go_at_call 33; with_reducible exact ext_calls (CC.out _))))
      refine wpQuiet_nil ?_
      rintro _ ⟨y, rfl⟩
      clear hcell e0 e1 e2 e3 e4 e5 e6 e7 z0 z1 z2 z3 z4 z5 z6 z7
      go_wp2_with fail
      go_ret
      exact ⟨by rw [Hw.out]; rfl, HX.out.trans y.h⟩
end Go.Proofs.YtmhkgfoimkonoaaDoor
