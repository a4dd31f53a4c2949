/-
  What is proved here: of two events that may be, which one counts: the document's better. Conditions: the library's variables, and the names of the kinds, hold what their text lays.
  events by their identities, in a map and out of it (plain). No program is in sight but the type of an event. No condition.
  the document's Once of events that may be is the plain function, in new memory; an event stored in a row. Conditions: at most a hundred thousand events.
-/
import Derived.Test.YtpkkkhgmkndpdaaGreatDoorExP
import Derived.Test.YtpkkkhgmkndpdaaGreatDoorEvKin
import Derived.Test.YtpkkkhgmkndpdaaGreatDoorEvMay
import Derived.Test.YtpkkkhgmkndpdaaGreatDoorEvCmp
import Derived.Test.YtpkkkhgmkndpdaaGreatDoorBase
import Derived.Test.YtpkkkhgmkndpdaaGreatDoorMaps
import Derived.Test.YtpkkkhgmkndpdaaGreatDoorSoS8
import Derived.Deep.LoopGhost
namespace Go.Proofs.YtpkkkhgmkndpdaaGreatDoor
open Go Go.RowKit Go.Proofs
attribute [local go_sem ↓] Go.wp_at_zero Go.wp_at_succ
theorem two_boxes {w X : World} {A B : Obj} (h : Ext ((w.alloc A).alloc B) X) : X.heap[w.heap.size]? = some A ∧ X.heap[w.heap.size + 1]? = some B ∧ Ext w X := by
  refine ⟨h.blk (blk_old (blk_new w A) B), h.blk ?_, Keeps.trans ((Keeps.refl _ w).alloc _ |>.alloc _) h⟩
  have := blk_new (w.alloc A) B
  simpa using this
theorem evSm_may {e : Ev} (h : mayE e = true) : EvSm e := by
  have hF := mayF h
  exact ⟨by have := (nameB_size hF.src).2; omega, by have := hF.psize; omega, by have := hF.isize; omega, by have := hF.tsize; omega⟩
set_option maxRecDepth 100000 in
set_option maxHeartbeats 4000000 in
theorem rf_better (a b : Ev) (w : World) (ha : mayE a = true) (hb : mayE b = true) :
    Calls Tryz.prog 64 #[.agg #[.string a.src, .int .i64 a.num, .int .i64 a.tick, .int .i64 a.kind, .string a.person, .string a.item, .int .i64 a.value, .string a.text], .agg #[.string b.src, .int .i64 b.num, .int .i64 b.tick, .int .i64 b.kind, .string b.person, .string b.item, .int .i64 b.value, .string b.text]] w fun r w' => r = .returned (.bool (betterE a b)) ∧ Ext w w' := by
  have CA := Lib.hid (fun (W : World) => ref_Less a b W)
  have CB := Lib.hid (fun (W : World) => ref_Less b a W)
  have FA := Lib.hid (fun (W : World) => ref_Format a W ha)
  have FB := Lib.hid (fun (W : World) => ref_Format b W hb)
  clear ha hb
  have swo := lessE_swo.asym (a := a) (b := b)
  cases h1 : lessE a b
  · cases h2 : lessE b a
    · have Hf := Lib.hid (show betterE a b = Op.bytesLess (fmtE a).toList (fmtE b).toList by unfold betterE; rw [h1, h2]; rfl)
      rw [h1] at CA
      rw [h2] at CB
      obtain ⟨F1, hF1⟩ : ∃ F, F = fmtE a := ⟨_, rfl⟩
      obtain ⟨F2, hF2⟩ : ∃ F, F = fmtE b := ⟨_, rfl⟩
      rw [← hF1] at FA Hf
      rw [← hF2] at FB Hf
      clear hF1 hF2 swo h1 h2
      go_enter Tryz.func64, Tryz.ntmps64
      go_wp2_with fail
      refine (CA.out _).mono ?_
      rintro _ X ⟨rfl, hxX⟩
      have HxX := Lib.hid hxX
      (obtain ⟨ga, gb, hwX⟩ := two_boxes hxX; have sa := (Array.getElem?_eq_some_iff.1 ga).1; have sb := (Array.getElem?_eq_some_iff.1 gb).1; have a0 := blk_cell ga 0 rfl; have a1 := blk_cell ga 1 rfl; have a2 := blk_cell ga 2 rfl; have a3 := blk_cell ga 3 rfl; have a4 := blk_cell ga 4 rfl; have a5 := blk_cell ga 5 rfl; have a6 := blk_cell ga 6 rfl; have a7 := blk_cell ga 7 rfl; have b0 := blk_cell gb 0 rfl; have b1 := blk_cell gb 1 rfl; have b2 := blk_cell gb 2 rfl; have b3 := blk_cell gb 3 rfl; have b4 := blk_cell gb 4 rfl; have b5 := blk_cell gb 5 rfl; have b6 := blk_cell gb 6 rfl; have b7 := blk_cell gb 7 rfl; have HwX := Lib.hid hwX; clear ga gb hwX hxX)
      go_wp2_with fail
      refine (CB.out _).mono ?_
      clear a0 a1 a2 a3 a4 a5 a6 a7 b0 b1 b2 b3 b4 b5 b6 b7 sa sb HwX
      rintro _ Y ⟨rfl, hxY⟩
      have hxX := HxX.out.trans hxY
      clear hxY HxX
      (obtain ⟨ga, gb, hwX⟩ := two_boxes hxX; have sa := (Array.getElem?_eq_some_iff.1 ga).1; have sb := (Array.getElem?_eq_some_iff.1 gb).1; have a0 := blk_cell ga 0 rfl; have a1 := blk_cell ga 1 rfl; have a2 := blk_cell ga 2 rfl; have a3 := blk_cell ga 3 rfl; have a4 := blk_cell ga 4 rfl; have a5 := blk_cell ga 5 rfl; have a6 := blk_cell ga 6 rfl; have a7 := blk_cell ga 7 rfl; have b0 := blk_cell gb 0 rfl; have b1 := blk_cell gb 1 rfl; have b2 := blk_cell gb 2 rfl; have b3 := blk_cell gb 3 rfl; have b4 := blk_cell gb 4 rfl; have b5 := blk_cell gb 5 rfl; have b6 := blk_cell gb 6 rfl; have b7 := blk_cell gb 7 rfl; have HwX := Lib.hid hwX; clear ga gb hwX hxX)
      go_upto_region 3 with fail
      refine wp_region_ext Y (Keeps.refl _ _) (by kernel_rfl) (by kernel_rfl) ?_
      have hcell := fun (y : XW Y) => y.cell
      repeat (go_big_quiet_step (first
        | (go_at_call 91; with_reducible exact ext_calls (FA.out _))
        | (go_at_call 91; with_reducible exact ext_calls (FB.out _))))
      refine wpQuiet_nil ?_
      rintro _ ⟨y, rfl⟩
      clear hcell
      go_wp2_with fail
      go_ret
      exact ⟨by rw [Hf.out]; rfl, HwX.out.trans y.h⟩
    · have Hf := Lib.hid (show betterE a b = false by unfold betterE; rw [h1, h2]; rfl)
      rw [h1] at CA
      rw [h2] at CB
      clear swo h1 h2
      go_enter Tryz.func64, Tryz.ntmps64
      go_wp2_with fail
      refine (CA.out _).mono ?_
      rintro _ X ⟨rfl, hxX⟩
      have HxX := Lib.hid hxX
      (obtain ⟨ga, gb, hwX⟩ := two_boxes hxX; have sa := (Array.getElem?_eq_some_iff.1 ga).1; have sb := (Array.getElem?_eq_some_iff.1 gb).1; have a0 := blk_cell ga 0 rfl; have a1 := blk_cell ga 1 rfl; have a2 := blk_cell ga 2 rfl; have a3 := blk_cell ga 3 rfl; have a4 := blk_cell ga 4 rfl; have a5 := blk_cell ga 5 rfl; have a6 := blk_cell ga 6 rfl; have a7 := blk_cell ga 7 rfl; have b0 := blk_cell gb 0 rfl; have b1 := blk_cell gb 1 rfl; have b2 := blk_cell gb 2 rfl; have b3 := blk_cell gb 3 rfl; have b4 := blk_cell gb 4 rfl; have b5 := blk_cell gb 5 rfl; have b6 := blk_cell gb 6 rfl; have b7 := blk_cell gb 7 rfl; have HwX := Lib.hid hwX; clear ga gb hwX hxX)
      go_wp2_with fail
      refine (CB.out _).mono ?_
      clear a0 a1 a2 a3 a4 a5 a6 a7 b0 b1 b2 b3 b4 b5 b6 b7 sa sb HwX
      rintro _ Y ⟨rfl, hxY⟩
      have hxX := HxX.out.trans hxY
      clear hxY HxX
      (obtain ⟨ga, gb, hwX⟩ := two_boxes hxX; have sa := (Array.getElem?_eq_some_iff.1 ga).1; have sb := (Array.getElem?_eq_some_iff.1 gb).1; have a0 := blk_cell ga 0 rfl; have a1 := blk_cell ga 1 rfl; have a2 := blk_cell ga 2 rfl; have a3 := blk_cell ga 3 rfl; have a4 := blk_cell ga 4 rfl; have a5 := blk_cell ga 5 rfl; have a6 := blk_cell ga 6 rfl; have a7 := blk_cell ga 7 rfl; have b0 := blk_cell gb 0 rfl; have b1 := blk_cell gb 1 rfl; have b2 := blk_cell gb 2 rfl; have b3 := blk_cell gb 3 rfl; have b4 := blk_cell gb 4 rfl; have b5 := blk_cell gb 5 rfl; have b6 := blk_cell gb 6 rfl; have b7 := blk_cell gb 7 rfl; have HwX := Lib.hid hwX; clear ga gb hwX hxX)
      go_wp2_with fail
      refine (CA.out _).mono ?_
      rintro _ Z ⟨rfl, hxZ⟩
      go_wp2_with fail
      go_ret
      exact ⟨by rw [Hf.out]; rfl, HwX.out.trans hxZ⟩
  · have Hf := Lib.hid (show betterE a b = true by unfold betterE; rw [h1]; rfl)
    rw [h1] at CA
    clear swo h1
    go_enter Tryz.func64, Tryz.ntmps64
    go_wp2_with fail
    refine (CA.out _).mono ?_
    rintro _ X ⟨rfl, hxX⟩
    (obtain ⟨ga, gb, hwX⟩ := two_boxes hxX; have sa := (Array.getElem?_eq_some_iff.1 ga).1; have sb := (Array.getElem?_eq_some_iff.1 gb).1; have a0 := blk_cell ga 0 rfl; have a1 := blk_cell ga 1 rfl; have a2 := blk_cell ga 2 rfl; have a3 := blk_cell ga 3 rfl; have a4 := blk_cell ga 4 rfl; have a5 := blk_cell ga 5 rfl; have a6 := blk_cell ga 6 rfl; have a7 := blk_cell ga 7 rfl; have b0 := blk_cell gb 0 rfl; have b1 := blk_cell gb 1 rfl; have b2 := blk_cell gb 2 rfl; have b3 := blk_cell gb 3 rfl; have b4 := blk_cell gb 4 rfl; have b5 := blk_cell gb 5 rfl; have b6 := blk_cell gb 6 rfl; have b7 := blk_cell gb 7 rfl; have HwX := Lib.hid hwX; clear ga gb hwX hxX)
    go_wp2_with fail
    refine (CA.out _).mono ?_
    rintro _ Z ⟨rfl, hxZ⟩
    go_wp2_with fail
    go_ret
    exact ⟨by rw [Hf.out]; rfl, HwX.out.trans hxZ⟩
end Go.Proofs.YtpkkkhgmkndpdaaGreatDoor
namespace Go.Proofs.YtpkkkhgmkndpdaaGreatDoor
open Go Go.RowKit Go.Proofs
attribute [local go_sem ↓] Go.wp_at_zero Go.wp_at_succ
def idF0 (p : String) : Field := { name := "source", type := 9, offset := 0, embedded := false, tag := "", pkgPath := p, byteOffset := 0 }
def idF1 (p : String) : Field := { name := "number", type := 3, offset := 1, embedded := false, tag := "", pkgPath := p, byteOffset := 16 }
def idE (e : Ev) : Idt := (e.src, e.num)
def evV (e : Ev) : Value := .agg (evC e)
def mapL (out : List Ev) : List (Idt × Ev) := out.map fun e => (idE e, e)
theorem idE_eq (e x : Ev) : ((idE e).1 == (idE x).1 && (idE e).2 == (idE x).2) = true ↔ sameE x e = true := by
  rw [sameE_iff, id_eq_iff]
  unfold idE
  simp only [Prod.mk.injEq]
  exact ⟨fun h => ⟨h.1.symm, h.2.symm⟩, fun h => ⟨h.1.symm, h.2.symm⟩⟩
theorem idE_eqb (e x : Ev) : ((idE e).1 == (idE x).1 && (idE e).2 == (idE x).2) = sameE x e := by
  rw [Bool.eq_iff_iff]; exact idE_eq e x
theorem idE_same {x y : Ev} : idE x = idE y ↔ sameE x y = true := by
  rw [sameE_iff]; unfold idE; simp
theorem mapL_get (out : List Ev) (e : Ev) : getM (fun a b : Idt => a.1 == b.1 && a.2 == b.2) (mapL out) (idE e) = out.find? (fun x => sameE x e) := by
  unfold getM mapL
  rw [List.find?_map]
  have h : ((fun p : Idt × Ev => (idE e).1 == p.1.1 && (idE e).2 == p.1.2) ∘ fun x => (idE x, x)) = fun x => sameE x e := by
    funext x; exact idE_eqb e x
  rw [h, Option.map_map]
  cases out.find? (fun x => sameE x e) <;> rfl
theorem any_find {out : List Ev} {p : Ev → Bool} (h : out.find? p = none) : out.any p = false := by
  rw [List.any_eq_false]
  intro x hx
  exact List.find?_eq_none.1 h x hx
theorem mapL_any (out : List Ev) (e : Ev) : (mapL out).any (fun p => (fun a b : Idt => a.1 == b.1 && a.2 == b.2) (idE e) p.1) = out.any (fun x => sameE x e) := by
  unfold mapL
  rw [List.any_map]
  congr 1
  funext x; exact idE_eqb e x
theorem mapL_put_none {out : List Ev} {e : Ev} (h : out.find? (fun x => sameE x e) = none) : putM (fun a b : Idt => a.1 == b.1 && a.2 == b.2) (mapL out) (idE e) e = mapL (putOnce out e) := by
  unfold putM putOnce
  rw [mapL_any, any_find h]
  simp [mapL]
theorem find_some {out : List Ev} {e y : Ev} (h : out.find? (fun x => sameE x e) = some y) : y ∈ out ∧ sameE y e = true ∧ out.any (fun x => sameE x e) = true :=
  have h1 := List.mem_of_find?_eq_some h
  have h2 : sameE y e = true := by simpa using List.find?_some h
  ⟨h1, h2, List.any_eq_true.2 ⟨y, h1, h2⟩⟩
theorem mapL_put_better {out : List Ev} {e y : Ev} (hi : Ids out) (h : out.find? (fun x => sameE x e) = some y) (hb : betterE e y = true) : putM (fun a b : Idt => a.1 == b.1 && a.2 == b.2) (mapL out) (idE e) e = mapL (putOnce out e) := by
  obtain ⟨h1, h2, h3⟩ := find_some h
  unfold putM putOnce
  rw [mapL_any, h3, if_pos rfl, if_pos rfl]
  unfold mapL
  rw [List.map_map, List.map_map]
  apply List.map_congr_left
  intro x hx
  have hxe := idE_eqb e x
  simp only [Function.comp_apply, hxe]
  cases hs : sameE x e
  · rfl
  · have : x = y := ids_one hi hx h1 (sameE_trans hs (by rw [sameE_comm]; exact h2))
    rw [this, hb]
    simp only [if_true]
    rw [idE_same.2 h2]
theorem putOnce_worse {out : List Ev} {e y : Ev} (hi : Ids out) (h : out.find? (fun x => sameE x e) = some y) (hb : betterE e y = false) : putOnce out e = out := by
  obtain ⟨h1, h2, h3⟩ := find_some h
  unfold putOnce
  rw [h3, if_pos rfl]
  conv => rhs; rw [← List.map_id out]
  apply List.map_congr_left
  intro x hx
  cases hs : sameE x e
  · rfl
  · have : x = y := ids_one hi hx h1 (sameE_trans hs (by rw [sameE_comm]; exact h2))
    rw [this, hb]; rfl
theorem zero_ev (w : World) : (zeroValue 30).run Tryz.prog w = .ok (.agg #[.string ⟨#[]⟩, .int .i64 0, .int .i64 0, .int .i64 0, .string ⟨#[]⟩, .string ⟨#[]⟩, .int .i64 0, .string ⟨#[]⟩]) w := by kernel_rfl
theorem once_snoc {l : List Ev} {k : Nat} {e : Ev} (h : l[k]? = some e) : onceL (l.take (k + 1)) = putOnce (onceL (l.take k)) e := by
  unfold onceL; rw [List.take_add_one, h]; simp
theorem Own.ne_obj {α : Type} {R : Rep α} {t : TypeId} {ok : Nat → Prop} {w : World} {base : Nat} {v : Value} {n : Nat} {l : List α} {g : Nat} {o : Obj} (h : Own R t ok w base v n l) (hg : w.heap[g]? = some o) (ho : ∀ C t' fr, o ≠ .cells C t' fr) : v.ownBlock ≠ some g := by
  intro e
  rcases h.2.choose_spec.1.2 with ⟨hv, _⟩ | ⟨g', cap, cur, hv, _, hh, _⟩
  · rw [hv] at e; simp [Value.ownBlock] at e
  · rw [hv] at e
    have : g' = g := by simpa [Value.ownBlock] using e
    subst this
    rw [hg] at hh
    injection hh with hh
    exact ho _ _ _ hh
theorem Iter.objs {P : Program} {kt : TypeId} {κ β : Type} {K : MK P kt κ} {V : β → Value} {w : World} {r b : Nat} {l : List (κ × β)} {ds : List κ} (h : Iter K V w r b l ds) : (∃ o, w.heap[r]? = some o ∧ ∀ C t' fr, o ≠ .cells C t' fr) ∧ (∃ o, w.heap[b]? = some o ∧ ∀ C t' fr, o ≠ .cells C t' fr) := by
  obtain ⟨es, clock, since, c0, seen, hb, hs, he, hr, _⟩ := h
  exact ⟨⟨_, hr, fun _ _ _ e => (by cases e)⟩, ⟨_, hb, fun _ _ _ e => (by cases e)⟩⟩
theorem Iter.nd {P : Program} {kt : TypeId} {κ β : Type} {K : MK P kt κ} {V : β → Value} {w : World} {r b : Nat} {l : List (κ × β)} {ds : List κ} (h : Iter K V w r b l ds) : ds.Nodup ∧ ∀ d ∈ ds, d ∈ l.map (·.1) := by
  obtain ⟨_, _, _, _, _, _, _, _, _, _, _, _, _, hnd, hsub⟩ := h
  exact ⟨hnd, hsub⟩
theorem nodup_sub_len {α : Type} : ∀ (ds l : List α), ds.Nodup → (∀ d ∈ ds, d ∈ l) → ds.length ≤ l.length
  | [], _, _, _ => Nat.zero_le _
  | d :: ds, l, hn, hs => by
    obtain ⟨l1, l2, rfl⟩ := List.append_of_mem (hs d (by simp))
    rw [List.nodup_cons] at hn
    have := nodup_sub_len ds (l1 ++ l2) hn.2 (fun x hx => by
      have hm := hs x (by simp [hx])
      rcases List.mem_append.1 hm with h | h
      · simp [h]
      · rcases List.mem_cons.1 h with e | h
        · exact absurd (e ▸ hx) hn.1
        · simp [h])
    simp at this ⊢
    omega
/-- All were gone through: the same events. -/
theorem gone_through {out es : List Ev} (hi : Ids out) (hnd : (es.map idE).Nodup) (hsub : ∀ e ∈ es, e ∈ out) (hall : ∀ p ∈ mapL out, p.1 ∈ es.map idE) : out.Perm es := by
  have n1 : es.Nodup := (List.pairwise_map.1 hnd).imp fun {a b} h e => h (by rw [e])
  have n2 : out.Nodup := hi.imp fun {a b} h e => by rw [e, sameE_self] at h; cases h
  refine (List.perm_ext_iff_of_nodup n2 n1).2 fun a => ⟨fun ha => ?_, hsub a⟩
  have h1 := hall (idE a, a) (List.mem_map.2 ⟨a, ha, rfl⟩)
  obtain ⟨x, hx, he⟩ := List.mem_map.1 h1
  have := ids_one hi (hsub x hx) ha (idE_same.1 he)
  rw [← this]; exact hx
theorem once_len (l : List Ev) : (onceL l).length ≤ l.length := by
  suffices ∀ (l out : List Ev), (l.foldl putOnce out).length ≤ out.length + l.length by
    have := this l []
    simpa [onceL] using this
  intro l
  induction l with
  | nil => intro out; simp
  | cons x l ih =>
    intro out
    have h1 := ih (putOnce out x)
    have h2 : (putOnce out x).length ≤ out.length + 1 := by
      unfold putOnce
      split <;> simp
    simp only [List.foldl_cons, List.length_cons]
    omega
end Go.Proofs.YtpkkkhgmkndpdaaGreatDoor
namespace Go.Proofs.YtpkkkhgmkndpdaaGreatDoor
open Go Go.RowKit Go.Proofs
attribute [local go_sem ↓] Go.wp_at_zero Go.wp_at_succ
/-! ### an event is stored in a row of the call's own -/
theorem flat8 : ∀ (l : List Ev) (q : Nat), (l.map evL).flatten[q]? = (l[q / 8]?).bind fun e => (evL e)[q % 8]?
  | [], q => by simp
  | a :: l, q => by
    have h8 : (evL a).length = 8 := rfl
    rw [List.map_cons, List.flatten_cons]
    by_cases hq : q < 8
    · rw [List.getElem?_append_left (by rw [h8]; exact hq), show q / 8 = 0 by omega, show q % 8 = q by omega]; rfl
    · rw [List.getElem?_append_right (by rw [h8]; omega), h8, flat8 l (q - 8), show q / 8 = (q - 8) / 8 + 1 by omega, show q % 8 = (q - 8) % 8 by omega]; rfl
theorem flat8_len (l : List Ev) : (l.map evL).flatten.length = l.length * 8 := by
  induction l with
  | nil => rfl
  | cons a l ih => rw [List.map_cons, List.flatten_cons, List.length_append, ih, List.length_cons]; show 8 + _ = _; omega
section
variable {t : TypeId} {ok : Nat → Prop} {w : World} {base : Nat} {v : Value} {n : Nat} {l : List Ev}
theorem Own.evl (h : Own evR t ok w base v n l) : w.ownsRow base t 8 v n (l.map evL).flatten := by
  obtain ⟨hl, xss, ho, hx, hr⟩ := h
  have : xss = l.map evL := by
    apply List.ext_getElem?
    intro i
    rcases Nat.lt_or_ge i n with hi | hi
    · have h1 : xss[i]? = some xss[i] := List.getElem?_eq_getElem (by omega)
      have h2 : l[i]? = some l[i] := List.getElem?_eq_getElem (by omega)
      have h3 : xss[i] = evL l[i] := hr i l[i] xss[i] h2 h1
      rw [h1, List.getElem?_map, h2, h3]; rfl
    · rw [List.getElem?_eq_none (by omega), List.getElem?_eq_none (by simp; omega)]
  rw [← this]; exact ho
theorem Own.of_evl (hl : l.length = n) (h : w.ownsRow base t 8 v n (l.map evL).flatten) : Own evR t ok w base v n l :=
  ⟨hl, l.map evL, h, by simp [hl], fun k a xs h1 h2 => by simp [h1] at h2; exact h2.symm⟩
theorem Own.set_ev {g c : Nat} (h : Own evR t ok w base (.slice (some ⟨g, 0, none⟩) n c) n l) {j : Nat} (hj : j < n) (e : Ev) : Own evR t ok (set8 w g (j * 8) e) base (.slice (some ⟨g, 0, none⟩) n c) n (l.set j e) := by
  have hl := h.1
  have ho := h.evl
  refine Own.of_evl (by simpa using hl) ⟨by rw [flat8_len]; simp [hl], ?_⟩
  rcases ho.2 with ⟨hv, _⟩ | ⟨g', cap, cur, hv, hb, hg, hnc, hcm, hcs, htk⟩
  · injection hv with hv; cases hv
  · have hv' := hv
    injection hv with h1 _ h2
    injection h1 with h1
    injection h1 with h1 _ _
    subst h1
    refine .inr ⟨g, cap, put8 cur (j * 8) e, hv', hb, set8_blk hg, hnc, hcm, by rw [put8_size]; exact hcs, ?_⟩
    apply List.ext_getElem?
    intro q
    have hold := congrArg (fun x => x[q]?) htk
    simp only [List.getElem?_take, Array.getElem?_toList, flat8] at hold ⊢
    have hsz : j * 8 + 8 ≤ cur.size := by rw [hcs]; omega
    by_cases hq : q < n * 8
    · rw [if_pos hq] at hold ⊢
      by_cases hqj : q / 8 = j
      · have e1 : q = j * 8 + q % 8 := by omega
        have h3 := put8_in (C := cur) (p := j * 8) (e := e) (j := q % 8) (by omega) hsz
        rw [← e1] at h3
        rw [h3, hqj, List.getElem?_set_self (by omega)]; rfl
      · rw [put8_out (by omega), hold, List.getElem?_set_ne (fun h => hqj h.symm)]
    · rw [if_neg hq]
      rw [List.getElem?_eq_none (by simp; omega)]; rfl
end
theorem find_none {out : List Ev} {e : Ev} (h : ∀ y ∈ out, sameE y e = false) : out.find? (fun x => sameE x e) = none := by
  rw [List.find?_eq_none]
  intro y hy; rw [h y hy]; decide
theorem find_at {out : List Ev} {e y : Ev} {j : Nat} (hj : out[j]? = some y) (h : ∀ z ∈ out.take j, sameE z e = false) (hs : sameE y e = true) : out.find? (fun x => sameE x e) = some y := by
  have hl := (List.getElem?_eq_some_iff.1 hj).1
  rw [List.find?_eq_some_iff_getElem]
  refine ⟨hs, j, hl, (List.getElem?_eq_some_iff.1 hj).2, fun i hi => ?_⟩
  have : out[i] ∈ out.take j := by
    rw [List.mem_take_iff_getElem]
    exact ⟨i, by omega, rfl⟩
  rw [h _ this]; rfl
theorem putOnce_none {out : List Ev} {e : Ev} (h : ∀ y ∈ out, sameE y e = false) : putOnce out e = out ++ [e] := by
  unfold putOnce
  rw [any_find (find_none h)]; rfl
theorem putOnce_set {out : List Ev} {e y : Ev} {j : Nat} (hi : Ids out) (hj : out[j]? = some y) (hs : sameE y e = true) (hb : betterE e y = true) : putOnce out e = out.set j e := by
  have hl := (List.getElem?_eq_some_iff.1 hj).1
  have hy := (List.getElem?_eq_some_iff.1 hj).2
  unfold putOnce
  rw [List.any_eq_true.2 ⟨y, List.mem_of_getElem? hj, hs⟩, if_pos rfl]
  apply List.ext_getElem?
  intro i
  rw [List.getElem?_map, List.getElem?_set]
  by_cases hij : j = i
  · subst hij
    rw [hj, if_pos rfl, if_pos hl]
    simp [hs, hb]
  · rw [if_neg hij]
    cases hx : out[i]? with
    | none => rfl
    | some x =>
      have hxe : sameE x e = false := by
        cases h9 : sameE x e
        · rfl
        · have hil := (List.getElem?_eq_some_iff.1 hx).1
          have hxi := (List.getElem?_eq_some_iff.1 hx).2
          have hxy : sameE x y = true := sameE_trans h9 (by rw [sameE_comm]; exact hs)
          have hpw := List.pairwise_iff_getElem.1 hi
          rcases Nat.lt_or_gt_of_ne hij with h | h
          · have := hpw j i hl hil h
            rw [hy, hxi, sameE_comm, hxy] at this; cases this
          · have := hpw i j hil hl h
            rw [hy, hxi, hxy] at this; cases this
      simp [hxe]
end Go.Proofs.YtpkkkhgmkndpdaaGreatDoor
namespace Go.Proofs.YtpkkkhgmkndpdaaGreatDoor
open Go Go.RowKit Go.Proofs
attribute [local go_sem ↓] Go.wp_at_zero Go.wp_at_succ
set_option maxRecDepth 100000 in
set_option maxHeartbeats 8000000 in
theorem rf_Once (A : Option Addr) (n c : Nat) (l : List Ev) (ok : Nat → Prop) (w : World) (hs : Sl evR ok w A n l) (hn : n ≤ 100000) (hmay : ∀ e ∈ l, mayE e = true) :
    Calls Tryz.prog 39 #[.slice A n c] w fun r w' => ∃ B m cb, r = .returned (.slice B m cb) ∧ m ≤ n ∧ Own evR 30 (fun _ => True) w' w.heap.size (.slice B m cb) m (onceL l) ∧ Ext w w' := by
  have Hs := Lib.hid hs
  have Hl := Lib.hid hs.1
  have Hmay := Lib.hid hmay
  obtain ⟨i0, hi0, hz0, hz1, hz2⟩ := info_part3 info_apiEv
  have Hok := Lib.hid (fun k => once_ok (l := l.take k) (fun e he => hmay e (List.mem_of_mem_take he)))
  clear hs hmay
  go_enter Tryz.func39, Tryz.ntmps39
  go_wp2_with fail
  go_loopw [3, 4] (fun v i wr => ∃ (k q : Nat) (B : Option Addr) (cb : Nat), k ≤ n ∧ q ≤ k ∧ i = .int .i64 k ∧ v = .slice B q cb ∧ Own evR 30 (fun _ => True) wr w.heap.size (.slice B q cb) q (onceL (l.take k)) ∧ Ext w wr) (fun _ i _ => n - (intOf i).toNat)
  case atStart => exact ⟨0, 0, _, 0, Nat.zero_le _, Nat.le_refl _, rfl, rfl, Own.new_nil (blk_new _ _) (Nat.le_refl _), (Keeps.refl _ _).alloc _⟩
  case round =>
    obtain ⟨k, q, B, cb, hk, hqk, rfl, rfl, hown, hx⟩ := hrel
    have Hown := Lib.hid hown
    have Hx := Lib.hid hx
    have hsz := hx.size
    have Hdl := Lib.hid hown.1
    clear hown hx
    by_cases hlt : k < n
    · obtain ⟨b, o, e, rfl, hb, _, he, d0, d1, d2, d3, d4, d5, d6, d7⟩ := (Hs.out.ext Hx.out).ev hlt
      have i0' : (0 : Int) ≤ (k : Int) := by omega
      have i1' : (k : Int) < (n : Int) := by omega
      have Hme := Lib.hid (Hmay.out e (List.mem_of_getElem? he))
      have Hsn := Lib.hid (once_snoc he)
      have hid := (Hok.out k).ids
      obtain ⟨out, hout⟩ : ∃ out, out = onceL (l.take k) := ⟨_, rfl⟩
      have Hom := Lib.hid (show ∀ y ∈ out, mayE y = true from fun y hy => by rw [hout] at hy; exact Hmay.out y (List.mem_of_mem_take ((Hok.out k).sound y hy).1))
      rw [← hout] at Hown Hdl Hsn hid
      have Hid := Lib.hid hid
      obtain ⟨V, hV⟩ : ∃ V, V = wr := ⟨_, rfl⟩
      rw [← hV] at Hown Hx hsz hb d0 d1 d2 d3 d4 d5 d6 d7 ⊢
      have HD := Lib.hid (show Ev8 V b (o + k * 8) e from ⟨d0, d1, d2, d3, d4, d5, d6, d7⟩)
      clear he hid hout hV
      clear d0 d1 d2 d3 d4 d5 d6 d7
      go_wp2_with fail
      go_loopw [5] (fun i wr => ∃ j : Nat, j ≤ q ∧ i = .int .i64 j ∧ (∀ y ∈ out.take j, sameE y e = false) ∧ Ext V wr) (fun i _ => q - (intOf i).toNat)
      case atStart => exact ⟨0, Nat.zero_le _, rfl, fun _ h => (by simp at h), Keeps.refl _ _⟩
      case round =>
        obtain ⟨j, hj, rfl, hno, hx2⟩ := hrel
        have Hno := Lib.hid hno
        have Hx2 := Lib.hid hx2
        clear hno hx2
        have j0 : (0 : Int) ≤ (j : Int) := by omega
        obtain ⟨c0, c1, c2, c3, c4, c5, c6, c7⟩ := ev8_ext Hx2.out hb HD.out
        have hbW := Nat.lt_of_lt_of_le hb Hx2.out.size
        by_cases hjq : j < q
        · have j1 : (j : Int) < (q : Int) := by omega
          have hjd : decide ((j : Int) < (q : Int)) = true := by simpa using hjq
          obtain ⟨g, S, rfl, hbg, hr⟩ : ∃ g S, B = some ⟨g, 0, none⟩ ∧ w.heap.size ≤ g ∧ Row V g 0 S out := by
            rcases Hown.out.evs.2 with ⟨h0, _⟩ | ⟨g, S, h1, h2, h3⟩
            · omega
            · exact ⟨g, S, h1, h2, h3⟩
          obtain ⟨y, hy⟩ : ∃ y, out[j]? = some y := ⟨_, List.getElem?_eq_getElem (by have := Hdl.out; omega)⟩
          have HY := Lib.hid hy
          have Hr := Lib.hid hr
          obtain ⟨z0, z1, z2, z3, z4, z5, z6, z7⟩ := (hr.ext Hx2.out).cells hy
          have hgW := (hr.ext Hx2.out).lt
          simp only [Nat.zero_add] at z0 z1 z2 z3 z4 z5 z6 z7
          clear hy hr
          have hsb : (y.src == e.src) = (y.src.toList == e.src.toList) := beq_toListBytes _ _
          cases hsr : (y.src == e.src)
          · rw [hsr] at hsb
            have s1 : (y.src.toList == e.src.toList) = false := hsb.symm
            have Hsame := Lib.hid (show sameE y e = false by unfold sameE; rw [hsr]; rfl)
            clear hsb hsr
            go_upto_region 6 with fail
            refine wp_region_ext wr (Keeps.refl _ _) (by kernel_rfl) (by kernel_rfl) ?_
            have hcell := fun (y : XW wr) => y.cell
            repeat (go_big_quiet_step (fail))
            refine wpQuiet_nil ?_
            rintro _ ⟨y0, rfl⟩
            clear hcell
            clear z0 z1 z2 z3 z4 z5 z6 z7 c0 c1 c2 c3 c4 c5 c6 c7
            go_wp2_with fail
            go_roundw
            case rel =>
              refine ⟨j + 1, by omega, by go_num, fun x hx => ?_, Hx2.out.trans y0.h⟩
              rw [List.take_add_one, HY.out] at hx
              rcases List.mem_append.1 hx with hx | hx
              · exact Hno.out x hx
              · simp at hx; rw [hx]; exact Hsame.out
            case measure => simp [intOf]; omega
          · rw [hsr] at hsb
            have s1 : (y.src.toList == e.src.toList) = true := hsb.symm
            by_cases hnr : y.num = e.num
            · have s2 : (y.num == e.num) = true := by simpa using hnr
              have s3 : (y.num != e.num) = false := by simpa using hnr
              have Hsame := Lib.hid (show sameE y e = true by unfold sameE; rw [hsr, hnr]; simp)
              have hjne : ((j : Int) == (q : Int)) = false := by simp; omega
              have Hbt := Lib.hid (fun (W : World) => rf_better e y W Hme.out (Hom.out y (List.mem_of_getElem? HY.out)))
              clear hsb hsr hnr
              go_upto_region 6 with fail
              refine wp_region_ext wr (Keeps.refl _ _) (by kernel_rfl) (by kernel_rfl) ?_
              have hcell := fun (y : XW wr) => y.cell
              repeat (go_big_quiet_step (fail))
              refine wpQuiet_nil ?_
              rintro _ ⟨y0, rfl⟩
              clear hcell
              clear z0 z1 z2 z3 z4 z5 z6 z7 c0 c1 c2 c3 c4 c5 c6 c7
              obtain ⟨Z, hZ⟩ : ∃ Z, Z = y0.w := ⟨_, rfl⟩
              have HZ := Lib.hid (show Ext V Z by rw [hZ]; exact Hx2.out.trans y0.h)
              rw [← hZ]
              clear hZ
              have HownZ := Lib.hid (Hown.out.ext HZ.out)
              have HwZ := Lib.hid (Hx.out.trans HZ.out)
              have hzz := HwZ.out.size
              obtain ⟨c0, c1, c2, c3, c4, c5, c6, c7⟩ := ev8_ext HZ.out hb HD.out
              obtain ⟨z0, z1, z2, z3, z4, z5, z6, z7⟩ := (Hr.out.ext HZ.out).cells HY.out
              have hgZ := (Hr.out.ext HZ.out).lt
              have hbZ := Nat.lt_of_lt_of_le hb HZ.out.size
              simp only [Nat.zero_add] at z0 z1 z2 z3 z4 z5 z6 z7
              cases hbt : betterE e y
              · rw [hbt] at Hbt
                go_upto_region 10 with fail
                refine wp_region_ext Z (Keeps.refl _ _) (by kernel_rfl) (by kernel_rfl) ?_
                have hcell := fun (y : XW Z) => y.cell
                repeat (go_big_quiet_step (first | (go_at_call 64; with_reducible exact ext_calls (Hbt.out _))))
                refine wpQuiet_nil ?_
                rintro _ ⟨y1, rfl⟩
                clear hcell z0 z1 z2 z3 z4 z5 z6 z7 c0 c1 c2 c3 c4 c5 c6 c7 Hbt
                have HE := Lib.hid (show Own evR 30 (fun _ => True) y1.w w.heap.size (.slice (some ⟨g, 0, none⟩) q cb) q (onceL (l.take (k + 1))) by
                  rw [Hsn.out, putOnce_worse Hid.out (find_at HY.out Hno.out Hsame.out) hbt]; exact HownZ.out.ext y1.h)
                have HxE := Lib.hid (HwZ.out.trans y1.h)
                clear hbt
                go_wp2_with fail
                go_roundw
                case rel => exact ⟨k + 1, q, _, cb, by omega, by omega, by go_num, rfl, HE.out, HxE.out⟩
                case measure => simp [intOf]; omega
              · rw [hbt] at Hbt
                go_upto_region 10 with fail
                refine wp_region_ext Z (Keeps.refl _ _) (by kernel_rfl) (by kernel_rfl) ?_
                have hcell := fun (y : XW Z) => y.cell
                repeat (go_big_quiet_step (first | (go_at_call 64; with_reducible exact ext_calls (Hbt.out _))))
                refine wpQuiet_nil ?_
                rintro _ ⟨y1, rfl⟩
                clear hcell z0 z1 z2 z3 z4 z5 z6 z7 c0 c1 c2 c3 c4 c5 c6 c7 Hbt
                obtain ⟨X, hX⟩ : ∃ X, X = y1.w := ⟨_, rfl⟩
                have HX := Lib.hid (show Ext Z X by rw [hX]; exact y1.h)
                rw [← hX]
                clear hX
                obtain ⟨c0, c1, c2, c3, c4, c5, c6, c7⟩ := ev8_ext (HZ.out.trans HX.out) hb HD.out
                have hrX := Hr.out.ext (HZ.out.trans HX.out)
                obtain ⟨z0, z1, z2, z3, z4, z5, z6, z7⟩ := hrX.cells HY.out
                simp only [Nat.zero_add] at z0 z1 z2 z3 z4 z5 z6 z7
                have hfree := hrX.free
                have hgb : b ≠ g ∨ b = g := by omega
                have HE := Lib.hid (show Own evR 30 (fun _ => True) (set8 X g (j * 8) e) w.heap.size (.slice (some ⟨g, 0, none⟩) q cb) q (onceL (l.take (k + 1))) by
                  rw [Hsn.out, putOnce_set Hid.out HY.out Hsame.out hbt]; exact (HownZ.out.ext HX.out).set_ev hjq e)
                have HxE := Lib.hid (show Ext w (set8 X g (j * 8) e) from Keeps.then_ (HwZ.out.trans HX.out) set8_keeps (fun i hi _ e => by omega))
                clear hbt hrX hgb
                go_wp2_with fail
                have HE' := HE.out
                have HxE' := HxE.out
                unfold set8 at HE' HxE'
                go_roundw
                case rel => exact ⟨k + 1, q, _, cb, by omega, by omega, by go_num, rfl, HE', HxE'⟩
                case measure => simp [intOf]; omega
            · have s2 : (y.num == e.num) = false := by simpa using hnr
              have s3 : (y.num != e.num) = true := by simpa using hnr
              have Hsame := Lib.hid (show sameE y e = false by unfold sameE; rw [hsr]; simpa using hnr)
              clear hsb hsr hnr
              go_upto_region 6 with fail
              refine wp_region_ext wr (Keeps.refl _ _) (by kernel_rfl) (by kernel_rfl) ?_
              have hcell := fun (y : XW wr) => y.cell
              repeat (go_big_quiet_step (fail))
              refine wpQuiet_nil ?_
              rintro _ ⟨y0, rfl⟩
              clear hcell
              clear z0 z1 z2 z3 z4 z5 z6 z7 c0 c1 c2 c3 c4 c5 c6 c7
              go_wp2_with fail
              go_roundw
              case rel =>
                refine ⟨j + 1, by omega, by go_num, fun x hx => ?_, Hx2.out.trans y0.h⟩
                rw [List.take_add_one, HY.out] at hx
                rcases List.mem_append.1 hx with hx | hx
                · exact Hno.out x hx
                · simp at hx; rw [hx]; exact Hsame.out
              case measure => simp [intOf]; omega
        · obtain rfl : j = q := by omega
          have hjd : decide ((j : Int) < (j : Int)) = false := by simp
          have hjne : ((j : Int) == (j : Int)) = true := by simp
          go_upto_region 6 with fail
          refine wp_region_ext wr (Keeps.refl _ _) (by kernel_rfl) (by kernel_rfl) ?_
          have hcell := fun (y : XW wr) => y.cell
          repeat (go_big_quiet_step (fail))
          refine wpQuiet_nil ?_
          rintro _ ⟨y0, rfl⟩
          clear hcell
          clear c0 c1 c2 c3 c4 c5 c6 c7
          obtain ⟨Z, hZ⟩ : ∃ Z, Z = y0.w := ⟨_, rfl⟩
          have HZ := Lib.hid (show Ext V Z by rw [hZ]; exact Hx2.out.trans y0.h)
          rw [← hZ]
          clear hZ
          have HownZ := Lib.hid (Hown.out.ext HZ.out)
          have HwZ := Lib.hid (Hx.out.trans HZ.out)
          have hzz := HwZ.out.size
          obtain ⟨c0, c1, c2, c3, c4, c5, c6, c7⟩ := ev8_ext HZ.out hb HD.out
          have hbZ := Nat.lt_of_lt_of_le hb HZ.out.size
          have Hpn := Lib.hid (show onceL (l.take (k + 1)) = out ++ [e] by
            rw [Hsn.out]
            refine putOnce_none ?_
            have := Hno.out
            rwa [List.take_of_length_le (Nat.le_of_eq Hdl.out)] at this)
          go_wp2_with (at_builtin; refine wpList_append_Own (ok := fun _ => True) (R := evR) _ rfl (.tmp 49) (.tmp 54) 22 rfl 30 i0 _ 96 w.heap.size Tryz.underlying22 hi0 hz0 hz1 hz2 rfl (by decide) rfl (HownZ.out.alloc _) _ 1 1 [e] rfl (Srcs.one_new rfl (blk_new _ _) rfl) (by omega) (by decide) (by simp; omega) ?_; intro A8 c8 w8 hown8 hg8 hat8; have Hown8 := Lib.hid hown8; have Hx8 := Lib.hid (show Ext w w8 from Keeps.grown (HwZ.out.alloc _) hg8 (fun g hg hl => by have := (HownZ.out.lt g hg).1; omega)); clear hown8 hg8 hat8)
          go_roundw
          case rel => exact ⟨k + 1, j + 1, A8, c8, by omega, by omega, by go_num, rfl, by rw [Hpn.out]; exact Hown8.out, Hx8.out⟩
          case measure => simp [intOf]; omega
    · obtain rfl : k = n := by omega
      have hown9 := Hown.out
      rw [List.take_of_length_le (Nat.le_of_eq Hl.out)] at hown9
      have HE := Lib.hid hown9
      clear hown9
      go_wp2_with fail
      go_ret
      exact ⟨B, q, cb, rfl, hqk, HE.out, Hx.out⟩
end Go.Proofs.YtpkkkhgmkndpdaaGreatDoor
