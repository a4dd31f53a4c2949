/-
  What is proved here: the program's Join of one list of events that may be is the plain function's list, in new memory. Conditions: at most a hundred thousand events; the library's variables, and the names of the kinds, hold what their text lays.
  the program's Join of one list of events that may be is the plain function's list, in new memory. Conditions: at most a hundred thousand events; the library's variables, and the names of the kinds, hold what their text lays.
-/
import Derived.Test.YtmhkgfoimkonoaaDoorExB
import Derived.Test.YtmhkgfoimkonoaaDoorIdK
import Derived.Test.YtmhkgfoimkonoaaDoorSoS13
import Derived.Test.YtmhkgfoimkonoaaDoorSoS14
import Derived.Deep.LoopGhost
namespace Go.Proofs.YtmhkgfoimkonoaaDoor
open Go Go.RowKit Go.Proofs
attribute [local go_sem ↓] Go.wp_at_zero Go.wp_at_succ
def idF0 (p : String) : Field := { name := "source", type := 9, offset := 0, embedded := false, tag := "", pkgPath := p, byteOffset := 0 }
def idF1 (p : String) : Field := { name := "number", type := 3, offset := 1, embedded := false, tag := "", pkgPath := p, byteOffset := 16 }
theorem idT_shard : IdT Tryd.prog 91 (idF0 "cicerone/shard") (idF1 "cicerone/shard") := ⟨Tryd.underlying91, by decide, by decide, Tryd.underlying9, Tryd.underlying3, rfl, rfl, by kernel_rfl⟩
def idE (e : Ev) : Idt := (e.src, e.num)
def evV (e : Ev) : Value := .agg (evC e)
def mapL (out : List Ev) : List (Idt × Ev) := out.map fun e => (idE e, e)
theorem idE_eq (e x : Ev) : ((idE e).1 == (idE x).1 && (idE e).2 == (idE x).2) = true ↔ sameE x e = true := by
  rw [sameE_iff, id_eq_iff]
  unfold idE
  simp only [Prod.mk.injEq]
  exact ⟨fun h => ⟨h.1.symm, h.2.symm⟩, fun h => ⟨h.1.symm, h.2.symm⟩⟩
theorem idE_eqb (e x : Ev) : ((idE e).1 == (idE x).1 && (idE e).2 == (idE x).2) = sameE x e := by
  rw [Bool.eq_iff_iff]; exact idE_eq e x
theorem idE_same {x y : Ev} : idE x = idE y ↔ sameE x y = true := by
  rw [sameE_iff]; unfold idE; simp
theorem mapL_get (out : List Ev) (e : Ev) : getM (fun a b : Idt => a.1 == b.1 && a.2 == b.2) (mapL out) (idE e) = out.find? (fun x => sameE x e) := by
  unfold getM mapL
  rw [List.find?_map]
  have h : ((fun p : Idt × Ev => (idE e).1 == p.1.1 && (idE e).2 == p.1.2) ∘ fun x => (idE x, x)) = fun x => sameE x e := by
    funext x; exact idE_eqb e x
  rw [h, Option.map_map]
  cases out.find? (fun x => sameE x e) <;> rfl
theorem any_find {out : List Ev} {p : Ev → Bool} (h : out.find? p = none) : out.any p = false := by
  rw [List.any_eq_false]
  intro x hx
  exact List.find?_eq_none.1 h x hx
theorem mapL_any (out : List Ev) (e : Ev) : (mapL out).any (fun p => (fun a b : Idt => a.1 == b.1 && a.2 == b.2) (idE e) p.1) = out.any (fun x => sameE x e) := by
  unfold mapL
  rw [List.any_map]
  congr 1
  funext x; exact idE_eqb e x
theorem mapL_put_none {out : List Ev} {e : Ev} (h : out.find? (fun x => sameE x e) = none) : putM (fun a b : Idt => a.1 == b.1 && a.2 == b.2) (mapL out) (idE e) e = mapL (putOnce out e) := by
  unfold putM putOnce
  rw [mapL_any, any_find h]
  simp [mapL]
theorem find_some {out : List Ev} {e y : Ev} (h : out.find? (fun x => sameE x e) = some y) : y ∈ out ∧ sameE y e = true ∧ out.any (fun x => sameE x e) = true :=
  have h1 := List.mem_of_find?_eq_some h
  have h2 : sameE y e = true := by simpa using List.find?_some h
  ⟨h1, h2, List.any_eq_true.2 ⟨y, h1, h2⟩⟩
theorem mapL_put_better {out : List Ev} {e y : Ev} (hi : Ids out) (h : out.find? (fun x => sameE x e) = some y) (hb : betterE e y = true) : putM (fun a b : Idt => a.1 == b.1 && a.2 == b.2) (mapL out) (idE e) e = mapL (putOnce out e) := by
  obtain ⟨h1, h2, h3⟩ := find_some h
  unfold putM putOnce
  rw [mapL_any, h3, if_pos rfl, if_pos rfl]
  unfold mapL
  rw [List.map_map, List.map_map]
  apply List.map_congr_left
  intro x hx
  have hxe := idE_eqb e x
  simp only [Function.comp_apply, hxe]
  cases hs : sameE x e
  · rfl
  · have : x = y := ids_one hi hx h1 (sameE_trans hs (by rw [sameE_comm]; exact h2))
    rw [this, hb]
    simp only [if_true]
    rw [idE_same.2 h2]
theorem putOnce_worse {out : List Ev} {e y : Ev} (hi : Ids out) (h : out.find? (fun x => sameE x e) = some y) (hb : betterE e y = false) : putOnce out e = out := by
  obtain ⟨h1, h2, h3⟩ := find_some h
  unfold putOnce
  rw [h3, if_pos rfl]
  conv => rhs; rw [← List.map_id out]
  apply List.map_congr_left
  intro x hx
  cases hs : sameE x e
  · rfl
  · have : x = y := ids_one hi hx h1 (sameE_trans hs (by rw [sameE_comm]; exact h2))
    rw [this, hb]; rfl
theorem zero_ev (w : World) : (zeroValue 30).run Tryd.prog w = .ok (.agg #[.string ⟨#[]⟩, .int .i64 0, .int .i64 0, .int .i64 0, .string ⟨#[]⟩, .string ⟨#[]⟩, .int .i64 0, .string ⟨#[]⟩]) w := by kernel_rfl
theorem look_none {W : World} {m : Nat} {out : List Ev} (h : Mp (idK idT_shard) evV W m (mapL out)) {e : Ev} (hg : out.find? (fun x => sameE x e) = none) :
    (Instr.lookup 89 (.map (some m)) (.agg #[.string e.src, .int .i64 e.num]) true).run Tryd.prog W = .ok (.tuple #[.agg #[.string ⟨#[]⟩, .int .i64 0, .int .i64 0, .int .i64 0, .string ⟨#[]⟩, .string ⟨#[]⟩, .int .i64 0, .string ⟨#[]⟩], .bool false]) W := by
  have := h.look Tryd.underlying89 (zero_ev W) (idE e) true
  rw [show getM ((idK idT_shard)).eq (mapL out) (idE e) = none from (mapL_get out e).trans hg] at this
  exact this
theorem look_some {W : World} {m : Nat} {out : List Ev} (h : Mp (idK idT_shard) evV W m (mapL out)) {e y : Ev} (hg : out.find? (fun x => sameE x e) = some y) :
    (Instr.lookup 89 (.map (some m)) (.agg #[.string e.src, .int .i64 e.num]) true).run Tryd.prog W = .ok (.tuple #[.agg #[.string y.src, .int .i64 y.num, .int .i64 y.tick, .int .i64 y.kind, .string y.person, .string y.item, .int .i64 y.value, .string y.text], .bool true]) W := by
  have := h.look Tryd.underlying89 (zero_ev W) (idE e) true
  rw [show getM ((idK idT_shard)).eq (mapL out) (idE e) = some y from (mapL_get out e).trans hg] at this
  exact this
theorem put_e {W : World} {m : Nat} {l : List (Idt × Ev)} (h : Mp (idK idT_shard) evV W m l) (e : Ev) :
    ∃ w', (Instr.mapUpdate 89 (.map (some m)) (.agg #[.string e.src, .int .i64 e.num]) (.agg #[.string e.src, .int .i64 e.num, .int .i64 e.tick, .int .i64 e.kind, .string e.person, .string e.item, .int .i64 e.value, .string e.text])).run Tryd.prog W = .ok () w' ∧ Mp (idK idT_shard) evV w' m (putM (fun a b : Idt => a.1 == b.1 && a.2 == b.2) l (idE e) e) ∧ Keeps (fun i => i ≠ m) W w' := by
  obtain ⟨w', h1, h2, h3, _⟩ := h.put Tryd.underlying89 (idE e) e
  exact ⟨w', h1, h2, h3⟩
structure JAt (w : World) (m : Nat) (out : List Ev) (wr : World) : Prop where
  mp : Mp (idK idT_shard) evV wr m (mapL out)
  ext : Ext w wr
theorem JAt.go {w wr wr' : World} {m : Nat} {out : List Ev} (h : JAt w m out wr) (hx : Ext wr wr') : JAt w m out wr' := ⟨h.mp.ext hx, h.ext.trans hx⟩
theorem JAt.put {w W w' : World} {m : Nat} {out' : List Ev} (h : Ext w W) (hm : w.heap.size ≤ m) (hk : Keeps (fun i => i ≠ m) W w') (hp : Mp (idK idT_shard) evV w' m (mapL out')) : JAt w m out' w' :=
  ⟨hp, Keeps.then_ h hk (fun i hi _ e => by omega)⟩
theorem once_snoc {l : List Ev} {k : Nat} {e : Ev} (h : l[k]? = some e) : onceL (l.take (k + 1)) = putOnce (onceL (l.take k)) e := by
  unfold onceL; rw [List.take_add_one, h]; simp
theorem Own.ne_obj {α : Type} {R : Rep α} {t : TypeId} {ok : Nat → Prop} {w : World} {base : Nat} {v : Value} {n : Nat} {l : List α} {g : Nat} {o : Obj} (h : Own R t ok w base v n l) (hg : w.heap[g]? = some o) (ho : ∀ C t' fr, o ≠ .cells C t' fr) : v.ownBlock ≠ some g := by
  intro e
  rcases h.2.choose_spec.1.2 with ⟨hv, _⟩ | ⟨g', cap, cur, hv, _, hh, _⟩
  · rw [hv] at e; simp [Value.ownBlock] at e
  · rw [hv] at e
    have : g' = g := by simpa [Value.ownBlock] using e
    subst this
    rw [hg] at hh
    injection hh with hh
    exact ho _ _ _ hh
theorem Iter.objs {P : Program} {kt : TypeId} {κ β : Type} {K : MK P kt κ} {V : β → Value} {w : World} {r b : Nat} {l : List (κ × β)} {ds : List κ} (h : Iter K V w r b l ds) : (∃ o, w.heap[r]? = some o ∧ ∀ C t' fr, o ≠ .cells C t' fr) ∧ (∃ o, w.heap[b]? = some o ∧ ∀ C t' fr, o ≠ .cells C t' fr) := by
  obtain ⟨es, clock, since, c0, seen, hb, hs, he, hr, _⟩ := h
  exact ⟨⟨_, hr, fun _ _ _ e => (by cases e)⟩, ⟨_, hb, fun _ _ _ e => (by cases e)⟩⟩
theorem Iter.nd {P : Program} {kt : TypeId} {κ β : Type} {K : MK P kt κ} {V : β → Value} {w : World} {r b : Nat} {l : List (κ × β)} {ds : List κ} (h : Iter K V w r b l ds) : ds.Nodup ∧ ∀ d ∈ ds, d ∈ l.map (·.1) := by
  obtain ⟨_, _, _, _, _, _, _, _, _, _, _, _, _, hnd, hsub⟩ := h
  exact ⟨hnd, hsub⟩
theorem nodup_sub_len {α : Type} : ∀ (ds l : List α), ds.Nodup → (∀ d ∈ ds, d ∈ l) → ds.length ≤ l.length
  | [], _, _, _ => Nat.zero_le _
  | d :: ds, l, hn, hs => by
    obtain ⟨l1, l2, rfl⟩ := List.append_of_mem (hs d (by simp))
    rw [List.nodup_cons] at hn
    have := nodup_sub_len ds (l1 ++ l2) hn.2 (fun x hx => by
      have hm := hs x (by simp [hx])
      rcases List.mem_append.1 hm with h | h
      · simp [h]
      · rcases List.mem_cons.1 h with e | h
        · exact absurd (e ▸ hx) hn.1
        · simp [h])
    simp at this ⊢
    omega
/-- All were gone through: the same events. -/
theorem gone_through {out es : List Ev} (hi : Ids out) (hnd : (es.map idE).Nodup) (hsub : ∀ e ∈ es, e ∈ out) (hall : ∀ p ∈ mapL out, p.1 ∈ es.map idE) : out.Perm es := by
  have n1 : es.Nodup := (List.pairwise_map.1 hnd).imp fun {a b} h e => h (by rw [e])
  have n2 : out.Nodup := hi.imp fun {a b} h e => by rw [e, sameE_self] at h; cases h
  refine (List.perm_ext_iff_of_nodup n2 n1).2 fun a => ⟨fun ha => ?_, hsub a⟩
  have h1 := hall (idE a, a) (List.mem_map.2 ⟨a, ha, rfl⟩)
  obtain ⟨x, hx, he⟩ := List.mem_map.1 h1
  have := ids_one hi (hsub x hx) ha (idE_same.1 he)
  rw [← this]; exact hx
end Go.Proofs.YtmhkgfoimkonoaaDoor
namespace Go.Proofs.YtmhkgfoimkonoaaDoor
open Go Go.RowKit Go.Proofs
attribute [local go_sem ↓] Go.wp_at_zero Go.wp_at_succ
theorem once_len (l : List Ev) : (onceL l).length ≤ l.length := by
  suffices ∀ (l out : List Ev), (l.foldl putOnce out).length ≤ out.length + l.length by
    have := this l []
    simpa [onceL] using this
  intro l
  induction l with
  | nil => intro out; simp
  | cons x l ih =>
    intro out
    have h1 := ih (putOnce out x)
    have h2 : (putOnce out x).length ≤ out.length + 1 := by
      unfold putOnce
      split <;> simp
    simp only [List.foldl_cons, List.length_cons]
    omega
set_option maxRecDepth 100000 in
set_option maxHeartbeats 8000000 in
theorem sh_Join (b o : Nat) (A : Option Addr) (m cm : Nat) (l : List Ev) (ok : Nat → Prop) (w : World) (hb : w.cell? ⟨b, o, none⟩ = some (.slice A m cm)) (hs : Sl evR ok w A m l) (hm : m ≤ 100000) (hmay : ∀ e ∈ l, mayE e = true) (hv : Vars w) :
    Calls Tryd.prog 37 #[.slice (some ⟨b, o, none⟩) 1 1] w fun r w' => ∃ A', r = .returned (.slice A' (joinE l).length (joinE l).length) ∧ EvsAt w.heap.size w' A' (joinE l).length (joinE l) ∧ Ext w w' := by
  have Hs := Lib.hid hs
  have Hl := Lib.hid hs.1
  have Hv := Lib.hid hv
  have Hmay := Lib.hid hmay
  have Hb := Lib.hid hb
  have Hbl := Lib.hid (cell_lt hb)
  have hmm := @run_makeMap Tryd.prog
  obtain ⟨i0, hi0, hz0, hz1, hz2⟩ := info_part3 info_apiEv
  have Hok := Lib.hid (fun k => once_ok (l := l.take k) (fun e he => hmay e (List.mem_of_mem_take he)))
  have H0 := Lib.hid (show JAt w w.heap.size [] (w.alloc (.map #[] 0)) from ⟨Mp.new w, (Keeps.refl _ _).alloc _⟩)
  clear hs hv hmay hb
  go_enter Tryd.func37, Tryd.ntmps37
  go_wp2_with fail
  obtain ⟨mb, hmb⟩ : ∃ mb, mb = w.heap.size := ⟨_, rfl⟩
  rw [← hmb] at H0
  have hmbw : w.heap.size ≤ mb := by omega
  try rw [← hmb]
  clear hmb
  go_loopw [17] (fun i wr => ∃ (pre : List Ev), (i = .int .i64 0 ∧ pre = [] ∨ i = .int .i64 1 ∧ pre = l) ∧ JAt w mb (onceL pre) wr) (fun i _ => 1 - (intOf i).toNat)
  case atStart => exact ⟨[], .inl ⟨rfl, rfl⟩, H0.out⟩
  case round =>
    obtain ⟨pre, hkp, hj⟩ := hrel
    rcases hkp with ⟨rfl, rfl⟩ | ⟨rfl, rfl⟩
    · have c0 := (hj.ext.cell (p := ⟨b, o, none⟩) Hbl.out trivial).trans Hb.out
      have Hj := Lib.hid hj
      clear hj
      go_wp2_with fail
      go_loopw [23] (fun i wr => ∃ k : Nat, k ≤ m ∧ i = .int .i64 k ∧ JAt w mb (onceL (l.take k)) wr) (fun i _ => m - (intOf i).toNat)
      case atStart => exact ⟨0, Nat.zero_le _, rfl, Hj.out⟩
      case round =>
        obtain ⟨k, hk, rfl, hj⟩ := hrel
        have Hj := Lib.hid hj
        have hmw := hj.mp.lt
        clear hj c0
        by_cases hlt : k < m
        · obtain ⟨be, oe, e, rfl, hbe, _, he, d0, d1, d2, d3, d4, d5, d6, d7⟩ := (Hs.out.ext Hj.out.ext).ev hlt
          have j0 : (0 : Int) ≤ (k : Int) := by omega
          have j1 : (k : Int) < (m : Int) := by omega
          have He := Lib.hid he
          have Hme := Lib.hid (Hmay.out e (List.mem_of_getElem? he))
          have Hsn := Lib.hid (once_snoc he)
          have hid := (Hok.out k).ids
          obtain ⟨out, hout⟩ : ∃ out, out = onceL (l.take k) := ⟨_, rfl⟩
          have Hom := Lib.hid (show ∀ y ∈ out, mayE y = true from fun y hy => by rw [hout] at hy; exact Hmay.out y (List.mem_of_mem_take ((Hok.out k).sound y hy).1))
          rw [← hout] at Hj Hsn hid
          have Hid := Lib.hid hid
          clear he hid hout
          cases hg : out.find? (fun x => sameE x e) with
          | none =>
            have L := look_none (Hj.out.mp.ext ((((Keeps.refl _ _).alloc (.cells #[.string e.src, .int .i64 e.num, .int .i64 e.tick, .int .i64 e.kind, .string e.person, .string e.item, .int .i64 e.value, .string e.text] 30)).alloc (.cells #[.string e.src, .int .i64 e.num] 91)))) hg
            obtain ⟨w5, P5, hm5, hk5⟩ := put_e (Hj.out.mp.ext ((((Keeps.refl _ _).alloc (.cells #[.string e.src, .int .i64 e.num, .int .i64 e.tick, .int .i64 e.kind, .string e.person, .string e.item, .int .i64 e.value, .string e.text] 30)).alloc (.cells #[.string e.src, .int .i64 e.num] 91)).alloc (.cells #[.string ⟨#[]⟩, .int .i64 0, .int .i64 0, .int .i64 0, .string ⟨#[]⟩, .string ⟨#[]⟩, .int .i64 0, .string ⟨#[]⟩] 30))) e
            rw [mapL_put_none hg, ← Hsn.out] at hm5
            have HE := Lib.hid (JAt.put (Hj.out.ext.trans ((((Keeps.refl _ _).alloc (.cells #[.string e.src, .int .i64 e.num, .int .i64 e.tick, .int .i64 e.kind, .string e.person, .string e.item, .int .i64 e.value, .string e.text] 30)).alloc (.cells #[.string e.src, .int .i64 e.num] 91)).alloc (.cells #[.string ⟨#[]⟩, .int .i64 0, .int .i64 0, .int .i64 0, .string ⟨#[]⟩, .string ⟨#[]⟩, .int .i64 0, .string ⟨#[]⟩] 30))) hmbw hk5 hm5)
            clear hm5 hk5
            go_wp2_with fail
            go_roundw
            case rel => exact ⟨k + 1, by omega, by go_num, HE.out⟩
            case measure => simp [intOf]; omega
          | some y =>
            have L := look_some (Hj.out.mp.ext ((((Keeps.refl _ _).alloc (.cells #[.string e.src, .int .i64 e.num, .int .i64 e.tick, .int .i64 e.kind, .string e.person, .string e.item, .int .i64 e.value, .string e.text] 30)).alloc (.cells #[.string e.src, .int .i64 e.num] 91)))) hg
            have Hg := Lib.hid hg
            have Hmy := Lib.hid (Hom.out y (find_some hg).1)
            obtain ⟨X, hX⟩ : ∃ X, X = ((wr.alloc (.cells #[.string e.src, .int .i64 e.num, .int .i64 e.tick, .int .i64 e.kind, .string e.person, .string e.item, .int .i64 e.value, .string e.text] 30)).alloc (.cells #[.string e.src, .int .i64 e.num] 91)).alloc (.cells #[.string y.src, .int .i64 y.num, .int .i64 y.tick, .int .i64 y.kind, .string y.person, .string y.item, .int .i64 y.value, .string y.text] 30) := ⟨_, rfl⟩
            have HxX := Lib.hid (show Ext wr X by rw [hX]; exact (((Keeps.refl _ _).alloc _).alloc _).alloc _)
            have Hbf := Lib.hid (sh_before e y X (Hv.out.ext (Hj.out.ext.trans HxX.out)) Hme.out Hmy.out)
            have H3 := three_new wr (.cells #[.string e.src, .int .i64 e.num, .int .i64 e.tick, .int .i64 e.kind, .string e.person, .string e.item, .int .i64 e.value, .string e.text] 30) (.cells #[.string e.src, .int .i64 e.num] 91) (.cells #[.string y.src, .int .i64 y.num, .int .i64 y.tick, .int .i64 y.kind, .string y.person, .string y.item, .int .i64 y.value, .string y.text] 30)
            rw [← hX] at H3
            have H3' := Lib.hid H3
            clear hg H3
            go_wp2_with fail
            rw [← hX]
            refine Hbf.out.mono ?_
            rintro _ X2 ⟨rfl, hx2⟩
            have g7 := hx2.blk H3'.out.1
            have g8 := hx2.blk H3'.out.2.1
            have q0 := blk_cell g7 0 rfl
            have q1 := blk_cell g7 1 rfl
            have q2 := blk_cell g7 2 rfl
            have q3 := blk_cell g7 3 rfl
            have q4 := blk_cell g7 4 rfl
            have q5 := blk_cell g7 5 rfl
            have q6 := blk_cell g7 6 rfl
            have q7 := blk_cell g7 7 rfl
            have r0 := blk_cell g8 0 rfl
            have r1 := blk_cell g8 1 rfl
            have HJ2 := Lib.hid (Hj.out.go (HxX.out.trans hx2))
            clear g7 g8 hx2 L d0 d1 d2 d3 d4 d5 d6 d7 hX
            cases hbt : betterE e y
            · have HE := Lib.hid (show JAt w mb (onceL (l.take (k + 1))) X2 by rw [Hsn.out, putOnce_worse Hid.out Hg.out hbt]; exact HJ2.out)
              clear hbt
              go_wp2_with fail
              go_roundw
              case rel => exact ⟨k + 1, by omega, by go_num, HE.out⟩
              case measure => simp [intOf]; omega
            · obtain ⟨w5, P5, hm5, hk5⟩ := put_e HJ2.out.mp e
              rw [mapL_put_better Hid.out Hg.out hbt, ← Hsn.out] at hm5
              have HE := Lib.hid (JAt.put HJ2.out.ext hmbw hk5 hm5)
              clear hm5 hk5 hbt
              go_wp2_with fail
              go_roundw
              case rel => exact ⟨k + 1, by omega, by go_num, HE.out⟩
              case measure => simp [intOf]; omega
        · obtain rfl : k = m := by omega
          have HE := Lib.hid (show JAt w mb (onceL l) wr by have h9 := Hj.out; rw [List.take_of_length_le (Nat.le_of_eq Hl.out)] at h9; exact h9)
          go_wp2_with fail
          go_roundw
          case rel => exact ⟨l, .inr ⟨rfl, rfl⟩, HE.out⟩
          case measure => simp [intOf]
    · have Hj := Lib.hid hj
      have hok := Hok.out m
      rw [List.take_of_length_le (Nat.le_of_eq Hl.out)] at hok
      have Hid := Lib.hid hok.ids
      have hol : (onceL pre).length ≤ 100000 := by have := once_len pre; have := Hl.out; omega
      obtain ⟨out, hout⟩ : ∃ out, out = onceL pre := ⟨_, rfl⟩
      have Hje := Lib.hid (show ∀ es, out.Perm es → sortL lessE es = joinE pre from fun es hp => by rw [hout] at hp; exact sort_perm Hid.out hp)
      rw [← hout] at Hj Hid hol
      clear hj hok hout
      obtain ⟨w6, hR, hIt, hx6⟩ := Hj.out.mp.range Tryd.underlying89
      have HIt := Lib.hid hIt
      have Hx6 := Lib.hid (Hj.out.ext.trans hx6)
      have hgw : w.heap.size ≤ wr.heap.size := Hj.out.ext.size
      obtain ⟨gi, hgi⟩ : ∃ gi, gi = wr.heap.size := ⟨_, rfl⟩
      rw [← hgi] at HIt hR hgw
      clear hgi hIt hx6
      have Hor := Lib.hid Hs.out
      go_wp2_with fail
      go_loopg [11] out.length (fun g v wr' => ∃ (es : List Ev) (A' : Option Addr) (c' : Nat), g = out.length - es.length ∧ v = .slice A' es.length c' ∧ Iter (idK idT_shard) evV wr' gi mb (mapL out) (es.map idE) ∧ (∀ e ∈ es, e ∈ out) ∧ Own evR 30 (fun _ => True) wr' w.heap.size (.slice A' es.length c') es.length es ∧ Ext w wr')
      case atStart => exact ⟨[], none, 0, rfl, rfl, HIt.out, fun _ h => (by cases h), Own.nil_, Hx6.out⟩
      case round =>
        obtain ⟨es, A', c', hgk, rfl, hit, hsub, hown, hx⟩ := hrel
        have Hgk := Lib.hid hgk
        have Hsub := Lib.hid hsub
        have Hown := Lib.hid hown
        have Hx := Lib.hid hx
        have hel : es.length ≤ out.length := by
          have := nodup_sub_len _ _ hit.nd.1 hit.nd.2
          simpa [mapL] using this
        clear hgk hsub hown hx
        rcases hit.next 30 with ⟨hall, hN0⟩ | ⟨p, hp, hpd, w7, hN0, hE0, hit7, hk7⟩
        · have hN := fun (ty : TypeId) => show (Instr.next (.pointer (some ⟨gi, 0, none⟩)) false ty).run Tryd.prog wr = _ from hN0
          have Hse := Lib.hid (Hje.out es (gone_through Hid.out hit.nd.1 Hsub.out hall))
          have hjl : (joinE pre).length = es.length := by rw [← Hse.out]; exact (sortL_ok lessE_swo es).2.len
          have Hjl := Lib.hid hjl
          have Hsr := Lib.hid (ev_Sort A' es.length c' es _ wr Hown.out.evSl (by omega))
          clear hN0 hall hit hjl
          go_wp2_with fail
          refine Hsr.out.mono ?_
          rintro _ w9 ⟨A9, rfl, hev9, hx9⟩
          have Hev9 := Lib.hid hev9
          have Hx9 := Lib.hid (Hx.out.trans hx9)
          clear hev9 hx9
          go_wp2_with fail
          go_ret
          refine ⟨A9, by rw [Hjl.out]; rfl, ?_, Hx9.out⟩
          have h9 := Hev9.out
          rw [Hse.out] at h9
          rw [Hjl.out]
          exact h9.le Hx.out.size
        · obtain ⟨e, heo, rfl⟩ : ∃ e, e ∈ out ∧ p = (idE e, e) := by
            obtain ⟨e, h1, h2⟩ := List.mem_map.1 hp
            exact ⟨e, h1, h2.symm⟩
          have hN := fun (ty : TypeId) => show (Instr.next (.pointer (some ⟨gi, 0, none⟩)) false ty).run Tryd.prog wr = .ok (.tuple #[.bool true, .agg #[.string e.src, .int .i64 e.num], .agg #[.string e.src, .int .i64 e.num, .int .i64 e.tick, .int .i64 e.kind, .string e.person, .string e.item, .int .i64 e.value, .string e.text]]) w7 from hN0
          have hE : (Instr.entry (.pointer (some ⟨gi, 0, none⟩))).run Tryd.prog w7 = .ok (.tuple #[.agg #[.string e.src, .int .i64 e.num], .agg #[.string e.src, .int .i64 e.num, .int .i64 e.tick, .int .i64 e.kind, .string e.person, .string e.item, .int .i64 e.value, .string e.text]]) w7 := hE0
          obtain ⟨⟨o1, ho1, ho1'⟩, _⟩ := hit.objs
          have hne := Hown.out.ne_obj ho1 ho1'
          have hown7 := Hown.out.flat (ok' := fun _ => True) evR_flat (fun g hg => hk7.block g (Hown.out.lt g hg).2 (fun e => hne (by rw [hg, e])))
          have hx7 : Ext w w7 := Keeps.then_ Hx.out hk7 (fun i hi _ e => by omega)
          have hit7' : Iter (idK idT_shard) evV w7 gi mb (mapL out) ((es ++ [e]).map idE) := by simpa using hit7
          have hel2 : (es ++ [e]).length ≤ out.length := by
            have := nodup_sub_len _ _ hit7'.nd.1 hit7'.nd.2
            simpa [mapL] using this
          have Hsub2 := Lib.hid (show ∀ x ∈ es ++ [e], x ∈ out from fun x hx => by
            rcases List.mem_append.1 hx with hx | hx
            · exact Hsub.out x hx
            · rw [List.mem_singleton.1 hx]; exact heo)
          obtain ⟨⟨o1, ho1, ho1'⟩, o2, ho2, ho2'⟩ := hit7'.objs
          have Hn1 := Lib.hid (hown7.ne_obj ho1 ho1')
          have Hn2 := Lib.hid (hown7.ne_obj ho2 ho2')
          have Hown7 := Lib.hid hown7
          have Hx7 := Lib.hid hx7
          have Hit7 := Lib.hid hit7'
          have hw7 := hx7.size
          clear hown7 hx7 hit7 hit7' ho1 ho2 ho1' ho2' hk7 hN0 hE0 hp hpd heo hit hne Hor
          go_wp2_with (at_builtin; go_loud (refine wpList_append_Own (ok := fun _ => True) (R := evR) _ rfl (.tmp 56) (.tmp 58) 22 rfl 30 i0 _ 96 w.heap.size Tryd.underlying22 hi0 hz0 hz1 hz2 rfl (by decide) rfl ((Hown7.out.alloc _).alloc _) _ 1 1 [e] rfl (Srcs.one_new rfl (blk_new_ _ _ (by simp)) rfl) (by simp at hel2; omega) (by decide) (by simp; omega) ?_; intro A8 c8 w8 hown8 hg8 hat8; have Hown8 := Lib.hid hown8; have Hx8 := Lib.hid (show Ext w w8 from Keeps.grown ((Hx7.out.alloc _).alloc _) hg8 (fun g hg hl => by have := (Hown7.out.lt g hg).1; omega)); have Hit8 := Lib.hid (((Hit7.out.keep ((Keeps.refl (fun _ => True) _).alloc _) trivial trivial).keep ((Keeps.refl (fun _ => True) _).alloc _) trivial trivial).keep (Keeps.grown (Keeps.refl (fun k => (Value.slice A' es.length c').ownBlock ≠ some k) _) hg8 (fun k hk _ h => h hk)) Hn2.out Hn1.out); clear hown8 hg8 hat8))
          go_roundg (out.length - (es ++ [e]).length)
          case measure => rw [Hgk.out]; simp at hel2 ⊢; omega
          case rel => exact ⟨es ++ [e], A8, c8, rfl, by simp, Hit8.out, Hsub2.out, by simpa using Hown8.out, Hx8.out⟩
end Go.Proofs.YtmhkgfoimkonoaaDoor
