/-
  What is proved here: the events that are counted anew, by the program (world.anew). Conditions: at most a hundred thousand events that may be; the library's variables, and the names of the kinds, hold what their text lays.
  the world of events that are counted anew (world.Of); its events (Events). Conditions: a config that may be; at most a hundred thousand events of short texts; the library's variables, and the names of the kinds, hold what their text lays.
-/
import Derived.Test.YtpkkkhgmkndpdaaGreatDoorExJ0
import Derived.Test.YtpkkkhgmkndpdaaGreatDoorJuP
import Derived.Test.YtpkkkhgmkndpdaaGreatDoorWoObj
import Derived.Test.YtpkkkhgmkndpdaaGreatDoorEvFmt
namespace Go.Proofs.YtpkkkhgmkndpdaaGreatDoor
open Go Go.RowKit Go.Proofs
attribute [local go_sem ↓] Go.wp_at_zero Go.wp_at_succ
theorem run_makeMap_hint {P : Program} {t kt et : TypeId} (hu : P.underlying t = some (.map kt et)) (q : IntKind) (n : Int) (w : World) : (Instr.makeMap t (some (.int q n))).run P w = .ok (.map (some w.heap.size)) (w.alloc (.map #[] 0)) := by
  simp [Instr.makeMap, run_underlying hu, asInt, asIntOf, Result.andThen, newObj, Sem.run]
theorem wlook_none {W : World} {m : Nat} {out : List Ev} (h : Mp (idK idT_world) evV W m (mapL out)) {e : Ev} (hg : out.find? (fun x => sameE x e) = none) :
    (Instr.lookup 86 (.map (some m)) (.agg #[.string e.src, .int .i64 e.num]) true).run Tryz.prog W = .ok (.tuple #[.agg #[.string ⟨#[]⟩, .int .i64 0, .int .i64 0, .int .i64 0, .string ⟨#[]⟩, .string ⟨#[]⟩, .int .i64 0, .string ⟨#[]⟩], .bool false]) W := by
  have := h.look Tryz.underlying86 (zero_ev W) (idE e) true
  rw [show getM ((idK idT_world)).eq (mapL out) (idE e) = none from (mapL_get out e).trans hg] at this
  exact this
theorem wlook_some {W : World} {m : Nat} {out : List Ev} (h : Mp (idK idT_world) evV W m (mapL out)) {e y : Ev} (hg : out.find? (fun x => sameE x e) = some y) :
    (Instr.lookup 86 (.map (some m)) (.agg #[.string e.src, .int .i64 e.num]) true).run Tryz.prog W = .ok (.tuple #[.agg #[.string y.src, .int .i64 y.num, .int .i64 y.tick, .int .i64 y.kind, .string y.person, .string y.item, .int .i64 y.value, .string y.text], .bool true]) W := by
  have := h.look Tryz.underlying86 (zero_ev W) (idE e) true
  rw [show getM ((idK idT_world)).eq (mapL out) (idE e) = some y from (mapL_get out e).trans hg] at this
  exact this
theorem wput_e {W : World} {m : Nat} {l : List (Idt × Ev)} (h : Mp (idK idT_world) evV W m l) (e : Ev) :
    ∃ w', (Instr.mapUpdate 86 (.map (some m)) (.agg #[.string e.src, .int .i64 e.num]) (.agg #[.string e.src, .int .i64 e.num, .int .i64 e.tick, .int .i64 e.kind, .string e.person, .string e.item, .int .i64 e.value, .string e.text])).run Tryz.prog W = .ok () w' ∧ Mp (idK idT_world) evV w' m (putM (fun a b : Idt => a.1 == b.1 && a.2 == b.2) l (idE e) e) ∧ Keeps (fun i => i ≠ m) W w' := by
  obtain ⟨w', h1, h2, h3, _⟩ := h.put Tryz.underlying86 (idE e) e
  exact ⟨w', h1, h2, h3⟩
structure WAt (w : World) (m : Nat) (out : List Ev) (wr : World) : Prop where
  mp : Mp (idK idT_world) evV wr m (mapL out)
  ext : Ext w wr
theorem WAt.go {w wr wr' : World} {m : Nat} {out : List Ev} (h : WAt w m out wr) (hx : Ext wr wr') : WAt w m out wr' := ⟨h.mp.ext hx, h.ext.trans hx⟩
theorem WAt.put {w W w' : World} {m : Nat} {out' : List Ev} (h : Ext w W) (hm : w.heap.size ≤ m) (hk : Keeps (fun i => i ≠ m) W w') (hp : Mp (idK idT_world) evV w' m (mapL out')) : WAt w m out' w' :=
  ⟨hp, Keeps.then_ h hk (fun i hi _ e => by omega)⟩
/-- Whoever is forgotten, as a map. -/
def goneM (es : List Ev) : List (ByteArray × Bool) := es.foldl (fun g e => if e.kind = 14 then putM (fun a b : ByteArray => a == b) g e.person true else g) []
def goneB (g : List (ByteArray × Bool)) (p : ByteArray) : Bool := (getM (fun a b : ByteArray => a == b) g p).getD false
theorem goneM_snoc (es : List Ev) (e : Ev) : goneM (es ++ [e]) = if e.kind = 14 then putM (fun a b : ByteArray => a == b) (goneM es) e.person true else goneM es := by unfold goneM; rw [List.foldl_append]; rfl
theorem goneB_self (g : List (ByteArray × Bool)) (p : ByteArray) : goneB (putM (fun a b : ByteArray => a == b) g p true) p = true := congrArg (fun o => Option.getD o false) (getM_putM_self (strK (P := Tryz.prog) (kt := 9) Tryz.underlying9) g p true)
theorem goneB_ne (g : List (ByteArray × Bool)) {p q : ByteArray} (h : q ≠ p) : goneB (putM (fun a b : ByteArray => a == b) g p true) q = goneB g q := congrArg (fun o => Option.getD o false) (getM_putM_ne (strK (P := Tryz.prog) (kt := 9) Tryz.underlying9) g true h)
theorem goneF_iff (p : ByteArray) : ∀ (es : List Ev) (g0 : List (ByteArray × Bool)), goneB (es.foldl (fun g e => if e.kind = 14 then putM (fun a b : ByteArray => a == b) g e.person true else g) g0) p = true ↔ goneB g0 p = true ∨ ∃ g ∈ es, g.kind = 14 ∧ g.person = p
  | [], g0 => by simp
  | e :: es, g0 => by
    rw [List.foldl_cons, goneF_iff p es]
    by_cases hk : e.kind = 14
    · rw [if_pos hk]
      by_cases hp : p = e.person
      · subst hp
        rw [goneB_self]
        exact ⟨fun _ => .inr ⟨e, by simp, hk, rfl⟩, fun _ => .inl rfl⟩
      · rw [goneB_ne _ hp]
        constructor
        · rintro (h | ⟨g, hg, h1, h2⟩)
          · exact .inl h
          · exact .inr ⟨g, by simp [hg], h1, h2⟩
        · rintro (h | ⟨g, hg, h1, h2⟩)
          · exact .inl h
          · rcases List.mem_cons.1 hg with rfl | h
            · exact absurd h2.symm hp
            · exact .inr ⟨g, h, h1, h2⟩
    · rw [if_neg hk]
      constructor
      · rintro (h | ⟨g, hg, h1, h2⟩)
        · exact .inl h
        · exact .inr ⟨g, by simp [hg], h1, h2⟩
      · rintro (h | ⟨g, hg, h1, h2⟩)
        · exact .inl h
        · rcases List.mem_cons.1 hg with rfl | h
          · exact absurd h1 hk
          · exact .inr ⟨g, h, h1, h2⟩
theorem goneM_iff (es : List Ev) (p : ByteArray) : goneB (goneM es) p = true ↔ ∃ g ∈ es, g.kind = 14 ∧ g.person = p := by
  unfold goneM
  rw [goneF_iff]
  constructor
  · rintro (h | h)
    · cases h
    · exact h
  · exact .inr
theorem left_gone {out es : List Ev} (h : ∀ e, e ∈ out ↔ e ∈ es) (e : Ev) : leftE out e = (!(goneB (goneM es) e.person) || decide (e.kind = 14)) := by
  rw [Bool.eq_iff_iff, leftE_iff, Bool.or_eq_true, Bool.not_eq_true', decide_eq_true_eq]
  constructor
  · rintro (h1 | h1)
    · exact .inr h1
    · refine .inl ?_
      rw [Bool.eq_false_iff]
      intro h2
      obtain ⟨g, hg, h3, h4⟩ := (goneM_iff es e.person).1 h2
      exact h1 g ((h g).2 hg) h3 h4
  · rintro (h1 | h1)
    · refine .inr fun g hg h3 h4 => ?_
      have := (goneM_iff es e.person).2 ⟨g, (h g).1 hg, h3, h4⟩
      rw [h1] at this; cases this
    · exact .inl h1
theorem filter_snoc {α : Type} (p : α → Bool) (l : List α) (a : α) : (l ++ [a]).filter p = if p a = true then l.filter p ++ [a] else l.filter p := by
  rw [List.filter_append]
  cases h : p a <;> simp [h]
theorem Mp.obj {P : Program} {kt : TypeId} {κ β : Type} {K : MK P kt κ} {V : β → Value} {w : World} {b : Nat} {l : List (κ × β)} (h : Mp K V w b l) : ∃ o, w.heap[b]? = some o ∧ ∀ C t' fr, o ≠ .cells C t' fr := by
  obtain ⟨es, clock, hb, _⟩ := h
  exact ⟨_, hb, fun _ _ _ e => (by cases e)⟩
set_option maxRecDepth 100000 in
set_option maxHeartbeats 8000000 in
theorem wo_anew (A : Option Addr) (m cm : Nat) (l : List Ev) (ok : Nat → Prop) (w : World) (hs : Sl evR ok w A m l) (hm : m ≤ 100000) (hmay : ∀ e ∈ l, mayE e = true) (hv : Vars w) :
    Calls Tryz.prog 23 #[.slice A m cm] w fun r w' => ∃ A', r = .returned (.slice A' (anewE l).length (anewE l).length) ∧ EvsAt w.heap.size w' A' (anewE l).length (anewE l) ∧ Ext w w' := by
  have Hs := Lib.hid hs
  have Hl := Lib.hid hs.1
  have Hv := Lib.hid hv
  have Hmay := Lib.hid hmay
  have hmm := @run_makeMap Tryz.prog
  have hmh := fun (w : World) => run_makeMap_hint (P := Tryz.prog) Tryz.underlying86 .i64 (m : Int) w
  obtain ⟨i0, hi0, hz0, hz1, hz2⟩ := info_of3 info_apiE
  have Hok := Lib.hid (fun k => once_ok (l := l.take k) (fun e he => hmay e (List.mem_of_mem_take he)))
  have H0 := Lib.hid (show WAt w w.heap.size [] (w.alloc (.map #[] 0)) from ⟨Mp.new w, (Keeps.refl _ _).alloc _⟩)
  clear hs hv hmay
  go_enter Tryz.func23, Tryz.ntmps23
  go_wp2_with fail
  obtain ⟨mb, hmb⟩ : ∃ mb, mb = w.heap.size := ⟨_, rfl⟩
  rw [← hmb] at H0
  have hmbw : w.heap.size ≤ mb := by omega
  try rw [← hmb]
  clear hmb
  go_loopw [21] (fun i wr => ∃ k : Nat, k ≤ m ∧ i = .int .i64 k ∧ WAt w mb (onceL (l.take k)) wr) (fun i _ => m - (intOf i).toNat)
  case atStart => exact ⟨0, Nat.zero_le _, rfl, H0.out⟩
  case round =>
    obtain ⟨k, hk, rfl, hj⟩ := hrel
    have Hj := Lib.hid hj
    have hmw := hj.mp.lt
    clear hj
    by_cases hlt : k < m
    · obtain ⟨be, oe, e, rfl, hbe, _, he, d0, d1, d2, d3, d4, d5, d6, d7⟩ := (Hs.out.ext Hj.out.ext).ev hlt
      have j0 : (0 : Int) ≤ (k : Int) := by omega
      have j1 : (k : Int) < (m : Int) := by omega
      have He := Lib.hid he
      have Hme := Lib.hid (Hmay.out e (List.mem_of_getElem? he))
      have Hsn := Lib.hid (once_snoc he)
      have hid := (Hok.out k).ids
      obtain ⟨out, hout⟩ : ∃ out, out = onceL (l.take k) := ⟨_, rfl⟩
      have Hom := Lib.hid (show ∀ y ∈ out, mayE y = true from fun y hy => by rw [hout] at hy; exact Hmay.out y (List.mem_of_mem_take ((Hok.out k).sound y hy).1))
      rw [← hout] at Hj Hsn hid
      have Hid := Lib.hid hid
      clear he hid hout
      cases hg : out.find? (fun x => sameE x e) with
      | none =>
        have L := wlook_none (Hj.out.mp.ext ((((Keeps.refl _ _).alloc (.cells #[.string e.src, .int .i64 e.num, .int .i64 e.tick, .int .i64 e.kind, .string e.person, .string e.item, .int .i64 e.value, .string e.text] 30)).alloc (.cells #[.string e.src, .int .i64 e.num] 88)))) hg
        obtain ⟨X, hX⟩ : ∃ X, X = ((wr.alloc (.cells #[.string e.src, .int .i64 e.num, .int .i64 e.tick, .int .i64 e.kind, .string e.person, .string e.item, .int .i64 e.value, .string e.text] 30)).alloc (.cells #[.string e.src, .int .i64 e.num] 88)).alloc (.cells #[.string ⟨#[]⟩, .int .i64 0, .int .i64 0, .int .i64 0, .string ⟨#[]⟩, .string ⟨#[]⟩, .int .i64 0, .string ⟨#[]⟩] 30) := ⟨_, rfl⟩
        have HxX := Lib.hid (show Ext wr X by rw [hX]; exact (((Keeps.refl _ _).alloc _).alloc _).alloc _)
        have CC := Lib.hid (show Calls Tryz.prog 46 #[.agg #[.string e.src, .int .i64 e.num, .int .i64 e.tick, .int .i64 e.kind, .string e.person, .string e.item, .int .i64 e.value, .string e.text], .agg #[.string ⟨#[]⟩, .int .i64 0, .int .i64 0, .int .i64 0, .string ⟨#[]⟩, .string ⟨#[]⟩, .int .i64 0, .string ⟨#[]⟩]] X (fun r w' => r = .returned (.int .i64 (cmpE e ev0)) ∧ Ext X w') from ev_Compare e ev0 X)
        obtain ⟨z, hz⟩ : ∃ z, z = cmpE e ev0 := ⟨_, rfl⟩
        rw [← hz] at CC
        have H3 := three_new wr (.cells #[.string e.src, .int .i64 e.num, .int .i64 e.tick, .int .i64 e.kind, .string e.person, .string e.item, .int .i64 e.value, .string e.text] 30) (.cells #[.string e.src, .int .i64 e.num] 88) (.cells #[.string ⟨#[]⟩, .int .i64 0, .int .i64 0, .int .i64 0, .string ⟨#[]⟩, .string ⟨#[]⟩, .int .i64 0, .string ⟨#[]⟩] 30)
        rw [← hX] at H3
        have H3' := Lib.hid H3
        have Hg := Lib.hid hg
        clear H3 hg hz
        go_upto_region 7 with fail
        rw [← hX]
        clear hX L d0 d1 d2 d3 d4 d5 d6 d7
        have g7 := H3'.out.1
        have g9 := H3'.out.2.2
        have x0 := blk_cell g7 0 rfl
        have y0 := blk_cell g9 0 rfl
        have x1 := blk_cell g7 1 rfl
        have y1 := blk_cell g9 1 rfl
        have x2 := blk_cell g7 2 rfl
        have y2 := blk_cell g9 2 rfl
        have x3 := blk_cell g7 3 rfl
        have y3 := blk_cell g9 3 rfl
        have x4 := blk_cell g7 4 rfl
        have y4 := blk_cell g9 4 rfl
        have x5 := blk_cell g7 5 rfl
        have y5 := blk_cell g9 5 rfl
        have x6 := blk_cell g7 6 rfl
        have y6 := blk_cell g9 6 rfl
        have x7 := blk_cell g7 7 rfl
        have y7 := blk_cell g9 7 rfl
        clear g7 g9
        go_upto_region 8 with (go_at_call 46; refine CC.out.mono ?_; rintro _ Y ⟨rfl, hxY⟩)
        clear x0 x1 x2 x3 x4 x5 x6 x7 y0 y1 y2 y3 y4 y5 y6 y7
        refine wp_region_ext Y (Keeps.refl _ _) (by kernel_rfl) (by kernel_rfl) ?_
        repeat (go_big_quiet_step (fail))
        refine wpQuiet_nil ?_
        rintro _ ⟨y, rfl⟩
        have hx9 : Ext wr y.w := HxX.out.trans (hxY.trans y.h)
        have g7 := Ext.blk (hxY.trans y.h) H3'.out.1
        have g8 := Ext.blk (hxY.trans y.h) H3'.out.2.1
        have q0 := blk_cell g7 0 rfl
        have q1 := blk_cell g7 1 rfl
        have q2 := blk_cell g7 2 rfl
        have q3 := blk_cell g7 3 rfl
        have q4 := blk_cell g7 4 rfl
        have q5 := blk_cell g7 5 rfl
        have q6 := blk_cell g7 6 rfl
        have q7 := blk_cell g7 7 rfl
        have r0 := blk_cell g8 0 rfl
        have r1 := blk_cell g8 1 rfl
        obtain ⟨Z, hZ⟩ : ∃ Z, Z = y.w := ⟨_, rfl⟩
        rw [← hZ] at hx9 q0 q1 q2 q3 q4 q5 q6 q7 r0 r1 ⊢
        clear hZ g7 g8 hxY
        obtain ⟨w5, P5, hm5, hk5⟩ := wput_e (Hj.out.mp.ext hx9) e
        rw [mapL_put_none Hg.out, ← Hsn.out] at hm5
        have HE := Lib.hid (WAt.put (Hj.out.ext.trans hx9) hmbw hk5 hm5)
        clear hm5 hk5 hx9
        go_wp2_with fail
        go_roundw
        case rel => exact ⟨k + 1, by omega, by go_num, HE.out⟩
        case measure => simp [intOf]; omega
      | some y =>
        have L := wlook_some (Hj.out.mp.ext ((((Keeps.refl _ _).alloc (.cells #[.string e.src, .int .i64 e.num, .int .i64 e.tick, .int .i64 e.kind, .string e.person, .string e.item, .int .i64 e.value, .string e.text] 30)).alloc (.cells #[.string e.src, .int .i64 e.num] 88)))) hg
        have Hg := Lib.hid hg
        have Hmy := Lib.hid (Hom.out y (find_some hg).1)
        obtain ⟨X, hX⟩ : ∃ X, X = ((wr.alloc (.cells #[.string e.src, .int .i64 e.num, .int .i64 e.tick, .int .i64 e.kind, .string e.person, .string e.item, .int .i64 e.value, .string e.text] 30)).alloc (.cells #[.string e.src, .int .i64 e.num] 88)).alloc (.cells #[.string y.src, .int .i64 y.num, .int .i64 y.tick, .int .i64 y.kind, .string y.person, .string y.item, .int .i64 y.value, .string y.text] 30) := ⟨_, rfl⟩
        have HxX := Lib.hid (show Ext wr X by rw [hX]; exact (((Keeps.refl _ _).alloc _).alloc _).alloc _)
        have CC := Lib.hid (ev_Compare e y X)
        have H3 := three_new wr (.cells #[.string e.src, .int .i64 e.num, .int .i64 e.tick, .int .i64 e.kind, .string e.person, .string e.item, .int .i64 e.value, .string e.text] 30) (.cells #[.string e.src, .int .i64 e.num] 88) (.cells #[.string y.src, .int .i64 y.num, .int .i64 y.tick, .int .i64 y.kind, .string y.person, .string y.item, .int .i64 y.value, .string y.text] 30)
        rw [← hX] at H3
        have H3' := Lib.hid H3
        have Hcs := Lib.hid (cmpE_cases e y)
        clear H3 hg
        go_upto_region 7 with fail
        rw [← hX]
        clear hX L d0 d1 d2 d3 d4 d5 d6 d7
        have g7 := H3'.out.1
        have g9 := H3'.out.2.2
        have x0 := blk_cell g7 0 rfl
        have y0 := blk_cell g9 0 rfl
        have x1 := blk_cell g7 1 rfl
        have y1 := blk_cell g9 1 rfl
        have x2 := blk_cell g7 2 rfl
        have y2 := blk_cell g9 2 rfl
        have x3 := blk_cell g7 3 rfl
        have y3 := blk_cell g9 3 rfl
        have x4 := blk_cell g7 4 rfl
        have y4 := blk_cell g9 4 rfl
        have x5 := blk_cell g7 5 rfl
        have y5 := blk_cell g9 5 rfl
        have x6 := blk_cell g7 6 rfl
        have y6 := blk_cell g9 6 rfl
        have x7 := blk_cell g7 7 rfl
        have y7 := blk_cell g9 7 rfl
        clear g7 g9
        have hcz : cmpE e y = -1 ∨ cmpE e y = 0 ∨ cmpE e y = 1 := by rcases cmpE_cases e y with ⟨h, _⟩ | ⟨h, _⟩ | ⟨h, _⟩ <;> omega
        rcases hcz with hz | hz | hz
        · have Hbt := Lib.hid (show betterE e y = true by
            rcases cmpE_cases e y with ⟨_, _, h3, h4⟩ | ⟨h, _⟩ | ⟨h, _⟩
            · unfold betterE; rw [h3, h4]; rfl
            · omega
            · omega)
          rw [hz] at CC
          clear hz
          go_upto_region 8 with (go_at_call 46; refine CC.out.mono ?_; rintro _ Y ⟨rfl, hxY⟩)
          clear x0 x1 x2 x3 x4 x5 x6 x7 y0 y1 y2 y3 y4 y5 y6 y7
          refine wp_region_ext Y (Keeps.refl _ _) (by kernel_rfl) (by kernel_rfl) ?_
          repeat (go_big_quiet_step (fail))
          refine wpQuiet_nil ?_
          rintro _ ⟨y9, rfl⟩
          have hx9 : Ext wr y9.w := HxX.out.trans (hxY.trans y9.h)
          have g7 := Ext.blk (hxY.trans y9.h) H3'.out.1
          have g8 := Ext.blk (hxY.trans y9.h) H3'.out.2.1
          have q0 := blk_cell g7 0 rfl
          have q1 := blk_cell g7 1 rfl
          have q2 := blk_cell g7 2 rfl
          have q3 := blk_cell g7 3 rfl
          have q4 := blk_cell g7 4 rfl
          have q5 := blk_cell g7 5 rfl
          have q6 := blk_cell g7 6 rfl
          have q7 := blk_cell g7 7 rfl
          have r0 := blk_cell g8 0 rfl
          have r1 := blk_cell g8 1 rfl
          obtain ⟨Z, hZ⟩ : ∃ Z, Z = y9.w := ⟨_, rfl⟩
          rw [← hZ] at hx9 q0 q1 q2 q3 q4 q5 q6 q7 r0 r1 ⊢
          clear hZ g7 g8 hxY
          obtain ⟨w5, P5, hm5, hk5⟩ := wput_e (Hj.out.mp.ext hx9) e
          rw [mapL_put_better Hid.out Hg.out Hbt.out, ← Hsn.out] at hm5
          have HE := Lib.hid (WAt.put (Hj.out.ext.trans hx9) hmbw hk5 hm5)
          clear hm5 hk5 hx9
          go_wp2_with fail
          go_roundw
          case rel => exact ⟨k + 1, by omega, by go_num, HE.out⟩
          case measure => simp [intOf]; omega
        · have Hbt := Lib.hid (show betterE e y = ltB (fmtE e) (fmtE y) by
            rcases cmpE_cases e y with ⟨h, _⟩ | ⟨_, _, h3, h4, _⟩ | ⟨h, _⟩
            · omega
            · unfold betterE; rw [h3, h4]; rfl
            · omega)
          rw [hz] at CC
          clear hz
          have FA := Lib.hid (fun (W : World) (h : Ext X W) => ev_Format_yes e W (evSm_may Hme.out) (Hv.out.ext (Hj.out.ext.trans (HxX.out.trans h))) Hme.out)
          have FB := Lib.hid (fun (W : World) (h : Ext X W) => ev_Format_yes y W (evSm_may Hmy.out) (Hv.out.ext (Hj.out.ext.trans (HxX.out.trans h))) Hmy.out)
          obtain ⟨F1, hF1⟩ : ∃ F, F = fmtE e := ⟨_, rfl⟩
          obtain ⟨F2, hF2⟩ : ∃ F, F = fmtE y := ⟨_, rfl⟩
          rw [← hF1] at FA Hbt
          rw [← hF2] at FB Hbt
          clear hF1 hF2
          obtain ⟨bt, hbt⟩ : ∃ bt, bt = ltB F1 F2 := ⟨_, rfl⟩
          have hbt' : Op.bytesLess F1.toList F2.toList = bt := hbt.symm
          have Hb2 := Lib.hid (show betterE e y = bt by rw [Hbt.out, hbt])
          clear hbt
          go_upto_region 8 with (go_at_call 46; refine CC.out.mono ?_; rintro _ Y ⟨rfl, hxY⟩)
          clear x0 x1 x2 x3 x4 x5 x6 x7 y0 y1 y2 y3 y4 y5 y6 y7
          have g7 := Ext.blk hxY H3'.out.1
          have g9 := Ext.blk hxY H3'.out.2.2
          have sx := (Array.getElem?_eq_some_iff.1 g7).1
          have sy := (Array.getElem?_eq_some_iff.1 g9).1
          have x0 := blk_cell g7 0 rfl
          have y0 := blk_cell g9 0 rfl
          have x1 := blk_cell g7 1 rfl
          have y1 := blk_cell g9 1 rfl
          have x2 := blk_cell g7 2 rfl
          have y2 := blk_cell g9 2 rfl
          have x3 := blk_cell g7 3 rfl
          have y3 := blk_cell g9 3 rfl
          have x4 := blk_cell g7 4 rfl
          have y4 := blk_cell g9 4 rfl
          have x5 := blk_cell g7 5 rfl
          have y5 := blk_cell g9 5 rfl
          have x6 := blk_cell g7 6 rfl
          have y6 := blk_cell g9 6 rfl
          have x7 := blk_cell g7 7 rfl
          have y7 := blk_cell g9 7 rfl
          clear g7 g9
          refine wp_region_ext Y (Keeps.refl _ _) (by kernel_rfl) (by kernel_rfl) ?_
          have hcell := fun (y : XW Y) => y.cell
          repeat (go_big_quiet_step (first
            | (go_at_call 47; with_reducible exact ext_calls (FA.out _ (hxY.trans (XW.h _))))
            | (go_at_call 47; with_reducible exact ext_calls (FB.out _ (hxY.trans (XW.h _))))))
          refine wpQuiet_nil ?_
          rintro _ ⟨y9, rfl⟩
          clear hcell x0 x1 x2 x3 x4 x5 x6 x7 y0 y1 y2 y3 y4 y5 y6 y7 sx sy
          have hx9 : Ext wr y9.w := HxX.out.trans (hxY.trans y9.h)
          have g7 := Ext.blk (hxY.trans y9.h) H3'.out.1
          have g8 := Ext.blk (hxY.trans y9.h) H3'.out.2.1
          have q0 := blk_cell g7 0 rfl
          have q1 := blk_cell g7 1 rfl
          have q2 := blk_cell g7 2 rfl
          have q3 := blk_cell g7 3 rfl
          have q4 := blk_cell g7 4 rfl
          have q5 := blk_cell g7 5 rfl
          have q6 := blk_cell g7 6 rfl
          have q7 := blk_cell g7 7 rfl
          have r0 := blk_cell g8 0 rfl
          have r1 := blk_cell g8 1 rfl
          obtain ⟨Z, hZ⟩ : ∃ Z, Z = y9.w := ⟨_, rfl⟩
          rw [← hZ] at hx9 q0 q1 q2 q3 q4 q5 q6 q7 r0 r1 ⊢
          clear hZ g7 g8 hxY
          clear hbt' Hbt
          cases bt
          · have HE := Lib.hid (show WAt w mb (onceL (l.take (k + 1))) Z by rw [Hsn.out, putOnce_worse Hid.out Hg.out Hb2.out]; exact Hj.out.go hx9)
            clear hx9
            go_wp2_with fail
            go_roundw
            case rel => exact ⟨k + 1, by omega, by go_num, HE.out⟩
            case measure => simp [intOf]; omega
          · obtain ⟨w5, P5, hm5, hk5⟩ := wput_e (Hj.out.mp.ext hx9) e
            rw [mapL_put_better Hid.out Hg.out Hb2.out, ← Hsn.out] at hm5
            have HE := Lib.hid (WAt.put (Hj.out.ext.trans hx9) hmbw hk5 hm5)
            clear hm5 hk5 hx9
            go_wp2_with fail
            go_roundw
            case rel => exact ⟨k + 1, by omega, by go_num, HE.out⟩
            case measure => simp [intOf]; omega
        · have Hbt := Lib.hid (show betterE e y = false by
            rcases cmpE_cases e y with ⟨h, _⟩ | ⟨h, _⟩ | ⟨_, _, h3, h4⟩
            · omega
            · omega
            · unfold betterE; rw [h3, h4]; rfl)
          rw [hz] at CC
          clear hz
          go_upto_region 8 with (go_at_call 46; refine CC.out.mono ?_; rintro _ Y ⟨rfl, hxY⟩)
          clear x0 x1 x2 x3 x4 x5 x6 x7 y0 y1 y2 y3 y4 y5 y6 y7
          refine wp_region_ext Y (Keeps.refl _ _) (by kernel_rfl) (by kernel_rfl) ?_
          repeat (go_big_quiet_step (fail))
          refine wpQuiet_nil ?_
          rintro _ ⟨y9, rfl⟩
          have hx9 : Ext wr y9.w := HxX.out.trans (hxY.trans y9.h)
          have g7 := Ext.blk (hxY.trans y9.h) H3'.out.1
          have g8 := Ext.blk (hxY.trans y9.h) H3'.out.2.1
          have q0 := blk_cell g7 0 rfl
          have q1 := blk_cell g7 1 rfl
          have q2 := blk_cell g7 2 rfl
          have q3 := blk_cell g7 3 rfl
          have q4 := blk_cell g7 4 rfl
          have q5 := blk_cell g7 5 rfl
          have q6 := blk_cell g7 6 rfl
          have q7 := blk_cell g7 7 rfl
          have r0 := blk_cell g8 0 rfl
          have r1 := blk_cell g8 1 rfl
          obtain ⟨Z, hZ⟩ : ∃ Z, Z = y9.w := ⟨_, rfl⟩
          rw [← hZ] at hx9 q0 q1 q2 q3 q4 q5 q6 q7 r0 r1 ⊢
          clear hZ g7 g8 hxY
          have HE := Lib.hid (show WAt w mb (onceL (l.take (k + 1))) Z by rw [Hsn.out, putOnce_worse Hid.out Hg.out Hbt.out]; exact Hj.out.go hx9)
          clear hx9
          go_wp2_with fail
          go_roundw
          case rel => exact ⟨k + 1, by omega, by go_num, HE.out⟩
          case measure => simp [intOf]; omega
    · obtain rfl : k = m := by omega
      have HE := Lib.hid (show WAt w mb (onceL l) wr by have h9 := Hj.out; rw [List.take_of_length_le (Nat.le_of_eq Hl.out)] at h9; exact h9)
      have hok := Hok.out k
      rw [List.take_of_length_le (Nat.le_of_eq Hl.out)] at hok
      have Hid := Lib.hid hok.ids
      have hol : (onceL l).length ≤ 100000 := by have := once_len l; have := Hl.out; omega
      obtain ⟨out, hout⟩ : ∃ out, out = onceL l := ⟨_, rfl⟩
      have Hje := Lib.hid (show ∀ es, out.Perm es → sortL lessE (es.filter (leftE out)) = anewE l from fun es hp => by rw [hout] at hp ⊢; exact anew_perm Hmay.out hp)
      rw [← hout] at HE Hid hol
      have Hal := Lib.hid (anew_len' (once_len l))
      clear hok hout
      obtain ⟨X, hX⟩ : ∃ X, X = wr.alloc (.map #[] 0) := ⟨_, rfl⟩
      obtain ⟨mg, hmg⟩ : ∃ mg, mg = wr.heap.size := ⟨_, rfl⟩
      have Hmg := Lib.hid (show Mp (strK (P := Tryz.prog) (kt := 9) Tryz.underlying9) boolV X mg (goneM []) by rw [hX, hmg]; exact Mp.new wr)
      have HwX := Lib.hid (HE.out.go (show Ext wr X by rw [hX]; exact (Keeps.refl _ _).alloc _))
      have hgw : w.heap.size ≤ mg := by rw [hmg]; exact HE.out.ext.size
      have hmgb : mg ≠ mb := by have := HE.out.mp.lt; omega
      clear hmw
      go_upto_region 12 with fail
      rw [← hX, ← hmg]
      clear hX hmg
      obtain ⟨w6, hR, hIt, hx6⟩ := HwX.out.mp.range Tryz.underlying86
      have HIt := Lib.hid hIt
      have Hx6 := Lib.hid (HwX.out.ext.trans hx6)
      have Hm6 := Lib.hid (Hmg.out.ext hx6)
      have hmgX := Hmg.out.lt
      obtain ⟨gi, hgi⟩ : ∃ gi, gi = X.heap.size := ⟨_, rfl⟩
      rw [← hgi] at HIt hR
      have hgi2 : gi ≠ mg := by omega
      have hgiw : w.heap.size ≤ gi := by have := HwX.out.ext.size; omega
      clear hgi hIt hx6
      go_upto_block 2 with fail
      go_cut [] (fun wx => (∃ es, out.Perm es ∧ Mp (strK (P := Tryz.prog) (kt := 9) Tryz.underlying9) boolV wx mg (goneM es)) ∧ WAt w mb out wx)
      case first =>
        go_wp2_with fail
        go_loopg [12] out.length (fun g _ wr' => ∃ (es : List Ev), g = out.length - es.length ∧ Iter (idK idT_world) evV wr' gi mb (mapL out) (es.map idE) ∧ (∀ e ∈ es, e ∈ out) ∧ Mp (strK (P := Tryz.prog) (kt := 9) Tryz.underlying9) boolV wr' mg (goneM es) ∧ Ext w wr')
        case atStart => exact ⟨[], rfl, HIt.out, fun _ h => (by cases h), Hm6.out, Hx6.out⟩
        case round =>
          obtain ⟨es, hgk, hit, hsub, hgo, hx⟩ := hrel
          have Hgk := Lib.hid hgk
          have Hsub := Lib.hid hsub
          have Hgo := Lib.hid hgo
          have Hx := Lib.hid hx
          have hel : es.length ≤ out.length := by
            have := nodup_sub_len _ _ hit.nd.1 hit.nd.2
            simpa [mapL] using this
          clear hgk hsub hgo hx
          rcases hit.next 30 with ⟨hall, hN0⟩ | ⟨p, hp, hpd, w7, hN0, hE0, hit7, hk7⟩
          · have hN := fun (ty : TypeId) => show (Instr.next (.pointer (some ⟨gi, 0, none⟩)) false ty).run Tryz.prog wr = _ from hN0
            have Hfin := Lib.hid (show (∃ es, out.Perm es ∧ Mp (strK (P := Tryz.prog) (kt := 9) Tryz.underlying9) boolV wr mg (goneM es)) ∧ WAt w mb out wr from ⟨⟨es, gone_through Hid.out hit.nd.1 Hsub.out hall, Hgo.out⟩, ⟨hit.mp, Hx.out⟩⟩)
            clear hN0 hall hit
            go_wp2_with fail
            go_meet
            exact Hfin.out
          · obtain ⟨e, heo, rfl⟩ : ∃ e, e ∈ out ∧ p = (idE e, e) := by
              obtain ⟨e, h1, h2⟩ := List.mem_map.1 hp
              exact ⟨e, h1, h2.symm⟩
            have hN := fun (ty : TypeId) => show (Instr.next (.pointer (some ⟨gi, 0, none⟩)) false ty).run Tryz.prog wr = .ok (.tuple #[.bool true, .agg #[.string e.src, .int .i64 e.num], .agg #[.string e.src, .int .i64 e.num, .int .i64 e.tick, .int .i64 e.kind, .string e.person, .string e.item, .int .i64 e.value, .string e.text]]) w7 from hN0
            have hE : (Instr.entry (.pointer (some ⟨gi, 0, none⟩))).run Tryz.prog w7 = .ok (.tuple #[.agg #[.string e.src, .int .i64 e.num], .agg #[.string e.src, .int .i64 e.num, .int .i64 e.tick, .int .i64 e.kind, .string e.person, .string e.item, .int .i64 e.value, .string e.text]]) w7 := hE0
            have hit7' : Iter (idK idT_world) evV w7 gi mb (mapL out) ((es ++ [e]).map idE) := by simpa using hit7
            have hel2 : (es ++ [e]).length ≤ out.length := by
              have := nodup_sub_len _ _ hit7'.nd.1 hit7'.nd.2
              simpa [mapL] using this
            have Hsub2 := Lib.hid (show ∀ x ∈ es ++ [e], x ∈ out from fun x hx => by
              rcases List.mem_append.1 hx with hx | hx
              · exact Hsub.out x hx
              · rw [List.mem_singleton.1 hx]; exact heo)
            have hx7 : Ext w w7 := Keeps.then_ Hx.out hk7 (fun i hi _ e => by omega)
            have hgo7 : Mp (strK (P := Tryz.prog) (kt := 9) Tryz.underlying9) boolV w7 mg (goneM es) := Hgo.out.keep hk7 (fun e9 => hgi2 e9.symm)
            obtain ⟨W8, hW8⟩ : ∃ W, W = w7.alloc (.cells #[.string e.src, .int .i64 e.num, .int .i64 e.tick, .int .i64 e.kind, .string e.person, .string e.item, .int .i64 e.value, .string e.text] 30) := ⟨_, rfl⟩
            obtain ⟨g8, hg8⟩ : ∃ g, g = w7.heap.size := ⟨_, rfl⟩
            have hb8 : W8.heap[g8]? = some (.cells #[.string e.src, .int .i64 e.num, .int .i64 e.tick, .int .i64 e.kind, .string e.person, .string e.item, .int .i64 e.value, .string e.text] 30) := by rw [hW8, hg8]; exact blk_new _ _
            have hx8 : Ext w7 W8 := by rw [hW8]; exact (Keeps.refl _ _).alloc _
            have Hgo8 := Lib.hid (hgo7.ext hx8)
            have Hit8 := Lib.hid (hit7'.keep (ok := fun _ => True) hx8 trivial trivial)
            have Hx8 := Lib.hid (hx7.trans hx8)
            have Hsn2 := Lib.hid (goneM_snoc es e)
            have q3 := blk_cell hb8 3 rfl
            have q4 := blk_cell hb8 4 rfl
            clear hit7 hit7' hx7 hgo7 hk7 hN0 hE0 hp hpd heo hit hx8 hb8
            go_upto_region 15 with fail
            rw [← hW8, ← hg8]
            clear hW8 hg8
            by_cases hk14 : e.kind = 14
            · obtain ⟨W9, P9, hm9, hk9, hsz9⟩ := Hgo8.out.put Tryz.underlying53 e.person true
              have P9' : (Instr.mapUpdate 53 (.map (some mg)) (.string e.person) (.bool true)).run Tryz.prog W8 = .ok () W9 := P9
              have HE := Lib.hid (show Iter (idK idT_world) evV W9 gi mb (mapL out) ((es ++ [e]).map idE) ∧ Mp (strK (P := Tryz.prog) (kt := 9) Tryz.underlying9) boolV W9 mg (goneM (es ++ [e])) ∧ Ext w W9 from ⟨Hit8.out.keep hk9 (fun e9 => hmgb e9.symm) hgi2, by rw [Hsn2.out, if_pos hk14]; exact hm9, Keeps.then_ Hx8.out hk9 (fun i hi _ e => by omega)⟩)
              rw [hk14] at q3
              clear hm9 hk9 hsz9 P9 hk14
              go_wp2_with fail
              go_roundg (out.length - (es ++ [e]).length)
              case measure => rw [Hgk.out]; simp at hel2 ⊢; omega
              case rel => exact ⟨es ++ [e], rfl, HE.out.1, Hsub2.out, HE.out.2.1, HE.out.2.2⟩
            · have hkd : decide (e.kind = 14) = false := by simpa using hk14
              have HE := Lib.hid (show Iter (idK idT_world) evV W8 gi mb (mapL out) ((es ++ [e]).map idE) ∧ Mp (strK (P := Tryz.prog) (kt := 9) Tryz.underlying9) boolV W8 mg (goneM (es ++ [e])) ∧ Ext w W8 from ⟨Hit8.out, by rw [Hsn2.out, if_neg hk14]; exact Hgo8.out, Hx8.out⟩)
              go_wp2_with fail
              go_roundg (out.length - (es ++ [e]).length)
              case measure => rw [Hgk.out]; simp at hel2 ⊢; omega
              case rel => exact ⟨es ++ [e], rfl, HE.out.1, Hsub2.out, HE.out.2.1, HE.out.2.2⟩
      case rest =>
        obtain ⟨⟨es0, hper, hgo⟩, hwt⟩ := hcut
        obtain ⟨Y, hY⟩ : ∃ Y, Y = wc := ⟨_, rfl⟩
        rw [← hY] at hgo hwt ⊢
        have Hper := Lib.hid hper
        have HgoY := Lib.hid hgo
        have HwY := Lib.hid hwt
        have Hlg := Lib.hid (fun e => left_gone (out := out) (es := es0) (fun e => hper.mem_iff) e)
        clear hY hper hgo hwt hR
        obtain ⟨w6', hR, hIt, hx6⟩ := HwY.out.mp.range Tryz.underlying86
        have HIt2 := Lib.hid hIt
        have Hx62 := Lib.hid (HwY.out.ext.trans hx6)
        have Hg6 := Lib.hid (HgoY.out.ext hx6)
        have hmgY := HgoY.out.lt
        obtain ⟨gj, hgj⟩ : ∃ gj, gj = Y.heap.size := ⟨_, rfl⟩
        rw [← hgj] at HIt2 hR
        have hgj2 : gj ≠ mg := by omega
        have hgjw : w.heap.size ≤ gj := by have := HwY.out.ext.size; omega
        clear hgj hIt hx6
        go_wp2_with fail
        go_loopg [13] out.length (fun g v wr' => ∃ (es : List Ev) (A' : Option Addr) (n c' : Nat), g = out.length - es.length ∧ n = (es.filter (leftE out)).length ∧ v = .slice A' n c' ∧ Iter (idK idT_world) evV wr' gj mb (mapL out) (es.map idE) ∧ (∀ e ∈ es, e ∈ out) ∧ Mp (strK (P := Tryz.prog) (kt := 9) Tryz.underlying9) boolV wr' mg (goneM es0) ∧ Own evR 30 (fun _ => True) wr' w.heap.size (.slice A' n c') n (es.filter (leftE out)) ∧ Ext w wr')
        case atStart => exact ⟨[], none, 0, 0, rfl, rfl, rfl, HIt2.out, fun _ h => (by cases h), Hg6.out, Own.nil_, Hx62.out⟩
        case round =>
          obtain ⟨es, A', n, c', hgk, hnn, rfl, hit, hsub, hgo, hown, hx⟩ := hrel
          have Hgk := Lib.hid hgk
          have Hnn := Lib.hid hnn
          have Hsub := Lib.hid hsub
          have Hgo := Lib.hid hgo
          have Hown := Lib.hid hown
          have Hx := Lib.hid hx
          have hel : es.length ≤ out.length := by
            have := nodup_sub_len _ _ hit.nd.1 hit.nd.2
            simpa [mapL] using this
          have hnl : n ≤ es.length := by rw [hnn]; exact List.length_filter_le _ _
          clear hgk hnn hsub hgo hown hx
          rcases hit.next 30 with ⟨hall, hN0⟩ | ⟨p, hp, hpd, w7, hN0, hE0, hit7, hk7⟩
          · have hN := fun (ty : TypeId) => show (Instr.next (.pointer (some ⟨gj, 0, none⟩)) false ty).run Tryz.prog wr = _ from hN0
            have Hse := Lib.hid (Hje.out es (gone_through Hid.out hit.nd.1 Hsub.out hall))
            have hjl : (anewE l).length = n := by rw [← Hse.out, Hnn.out]; exact (sortL_ok lessE_swo _).2.len
            have Hjl := Lib.hid hjl
            have Hsr := Lib.hid (ev_Sort A' n c' (es.filter (leftE out)) _ wr Hown.out.evSl (by omega))
            clear hN0 hall hit hjl
            go_wp2_with fail
            refine Hsr.out.mono ?_
            rintro _ w9 ⟨A9, rfl, hev9, hx9⟩
            have Hev9 := Lib.hid hev9
            have Hx9 := Lib.hid (Hx.out.trans hx9)
            clear hev9 hx9
            go_wp2_with fail
            go_ret
            refine ⟨A9, by rw [Hjl.out]; rfl, ?_, Hx9.out⟩
            have h9 := Hev9.out
            rw [Hse.out] at h9
            rw [Hjl.out]
            exact h9.le Hx.out.size
          · obtain ⟨e, heo, rfl⟩ : ∃ e, e ∈ out ∧ p = (idE e, e) := by
              obtain ⟨e, h1, h2⟩ := List.mem_map.1 hp
              exact ⟨e, h1, h2.symm⟩
            have hN := fun (ty : TypeId) => show (Instr.next (.pointer (some ⟨gj, 0, none⟩)) false ty).run Tryz.prog wr = .ok (.tuple #[.bool true, .agg #[.string e.src, .int .i64 e.num], .agg #[.string e.src, .int .i64 e.num, .int .i64 e.tick, .int .i64 e.kind, .string e.person, .string e.item, .int .i64 e.value, .string e.text]]) w7 from hN0
            have hE : (Instr.entry (.pointer (some ⟨gj, 0, none⟩))).run Tryz.prog w7 = .ok (.tuple #[.agg #[.string e.src, .int .i64 e.num], .agg #[.string e.src, .int .i64 e.num, .int .i64 e.tick, .int .i64 e.kind, .string e.person, .string e.item, .int .i64 e.value, .string e.text]]) w7 := hE0
            obtain ⟨⟨o1, ho1, ho1'⟩, _⟩ := hit.objs
            have hne := Hown.out.ne_obj ho1 ho1'
            have hown7 := Hown.out.flat (ok' := fun _ => True) evR_flat (fun g hg => hk7.block g (Hown.out.lt g hg).2 (fun e => hne (by rw [hg, e])))
            have hit7' : Iter (idK idT_world) evV w7 gj mb (mapL out) ((es ++ [e]).map idE) := by simpa using hit7
            have hel2 : (es ++ [e]).length ≤ out.length := by
              have := nodup_sub_len _ _ hit7'.nd.1 hit7'.nd.2
              simpa [mapL] using this
            have Hsub2 := Lib.hid (show ∀ x ∈ es ++ [e], x ∈ out from fun x hx => by
              rcases List.mem_append.1 hx with hx | hx
              · exact Hsub.out x hx
              · rw [List.mem_singleton.1 hx]; exact heo)
            have hx7 : Ext w w7 := Keeps.then_ Hx.out hk7 (fun i hi _ e => by omega)
            have hgo7 : Mp (strK (P := Tryz.prog) (kt := 9) Tryz.underlying9) boolV w7 mg (goneM es0) := Hgo.out.keep hk7 (fun e9 => hgj2 e9.symm)
            obtain ⟨W8, hW8⟩ : ∃ W, W = w7.alloc (.cells #[.string e.src, .int .i64 e.num, .int .i64 e.tick, .int .i64 e.kind, .string e.person, .string e.item, .int .i64 e.value, .string e.text] 30) := ⟨_, rfl⟩
            obtain ⟨g8, hg8⟩ : ∃ g, g = w7.heap.size := ⟨_, rfl⟩
            have hb8 : W8.heap[g8]? = some (.cells #[.string e.src, .int .i64 e.num, .int .i64 e.tick, .int .i64 e.kind, .string e.person, .string e.item, .int .i64 e.value, .string e.text] 30) := by rw [hW8, hg8]; exact blk_new _ _
            have hx8 : Ext w7 W8 := by rw [hW8]; exact (Keeps.refl _ _).alloc _
            have hgo8 := hgo7.ext hx8
            have hit8 := hit7'.keep (ok := fun _ => True) hx8 trivial trivial
            have hown8 := hown7.ext hx8
            obtain ⟨⟨o1, ho1, ho1'⟩, o2, ho2, ho2'⟩ := hit8.objs
            have Hn1 := Lib.hid (hown8.ne_obj ho1 ho1')
            have Hn2 := Lib.hid (hown8.ne_obj ho2 ho2')
            have Hn3 := Lib.hid (hown8.ne_obj hgo8.obj.choose_spec.1 hgo8.obj.choose_spec.2)
            have Hgo8 := Lib.hid hgo8
            have Hit8 := Lib.hid hit8
            have Hown8 := Lib.hid hown8
            have Hx8 := Lib.hid (hx7.trans hx8)
            obtain ⟨gb, hgb⟩ : ∃ gb, gb = goneB (goneM es0) e.person := ⟨_, rfl⟩
            have L : (Instr.lookup 53 (.map (some mg)) (.string e.person) false).run Tryz.prog W8 = .ok (.bool gb) W8 := by rw [hgb]; exact hgo8.look1 (z := false) Tryz.underlying53 (zero_bo W8) e.person
            have Hpe := Lib.hid (show leftE out e = (!gb || decide (e.kind = 14)) by rw [Hlg.out e, hgb])
            have q3 := blk_cell hb8 3 rfl
            have q4 := blk_cell hb8 4 rfl
            have q0 := blk_cell hb8 0 rfl
            have q1 := blk_cell hb8 1 rfl
            have q2 := blk_cell hb8 2 rfl
            have q5 := blk_cell hb8 5 rfl
            have q6 := blk_cell hb8 6 rfl
            have q7 := blk_cell hb8 7 rfl
            have h8l : g8 < W8.heap.size := (Array.getElem?_eq_some_iff.1 hb8).1
            simp at hel2
            clear hit7 hit7' hx7 hgo7 hk7 hN0 hE0 hp hpd heo hit hx8 hb8 hown7 hgo8 hit8 hown8 ho1 ho2 ho1' ho2' hne hgb
            go_upto_region 21 with fail
            rw [← hW8, ← hg8]
            clear hW8 hg8
            cases gb
            · have Hpt := Lib.hid (show leftE out e = true by rw [Hpe.out]; rfl)
              go_wp2_with (at_builtin; go_loud (refine wpList_append_Own (ok := fun _ => True) (R := evR) _ rfl (.tmp 89) (.tmp 91) 22 rfl 30 i0 _ 96 w.heap.size Tryz.underlying22 hi0 hz0 hz1 hz2 rfl (by decide) rfl (Hown8.out.alloc _) _ 1 1 [e] rfl (Srcs.one_new rfl (blk_new_ _ _ (by simp)) rfl) (by omega) (by decide) (by have := Hx8.out.size; simp; omega) ?_; intro A9 c9 w9 hown9 hg9 hat9; have Hown9 := Lib.hid hown9; have Hx9 := Lib.hid (show Ext w w9 from Keeps.grown (Hx8.out.alloc _) hg9 (fun g hg hl => by have := (Hown8.out.lt g hg).1; omega)); have hk9 : Keeps (fun k => (Value.slice A' n c').ownBlock ≠ some k) W8 w9 := Keeps.grown ((Keeps.refl _ _).alloc _) hg9 (fun k hk _ h => h hk); have Hit9 := Lib.hid (Hit8.out.keep hk9 Hn2.out Hn1.out); have Hgo9 := Lib.hid (Hgo8.out.keep hk9 Hn3.out); clear hown9 hg9 hat9 hk9))
              go_roundg (out.length - (es ++ [e]).length)
              case measure => rw [Hgk.out]; simp at hel2 ⊢; omega
              case rel => exact ⟨es ++ [e], A9, n + 1, c9, rfl, by rw [filter_snoc, Hpt.out, if_pos rfl, List.length_append, ← Hnn.out]; rfl, rfl, Hit9.out, Hsub2.out, Hgo9.out, by rw [filter_snoc, Hpt.out, if_pos rfl]; exact Hown9.out, Hx9.out⟩
            · by_cases hk14 : e.kind = 14
              · have Hpt := Lib.hid (show leftE out e = true by rw [Hpe.out, hk14]; rfl)
                have h9 : (e.kind == 14) = true := by simpa using hk14
                clear hk14
                go_wp2_with (at_builtin; go_loud (refine wpList_append_Own (ok := fun _ => True) (R := evR) _ rfl (.tmp 89) (.tmp 91) 22 rfl 30 i0 _ 96 w.heap.size Tryz.underlying22 hi0 hz0 hz1 hz2 rfl (by decide) rfl (Hown8.out.alloc _) _ 1 1 [e] rfl (Srcs.one_new rfl (blk_new_ _ _ (by simp)) rfl) (by omega) (by decide) (by have := Hx8.out.size; simp; omega) ?_; intro A9 c9 w9 hown9 hg9 hat9; have Hown9 := Lib.hid hown9; have Hx9 := Lib.hid (show Ext w w9 from Keeps.grown (Hx8.out.alloc _) hg9 (fun g hg hl => by have := (Hown8.out.lt g hg).1; omega)); have hk9 : Keeps (fun k => (Value.slice A' n c').ownBlock ≠ some k) W8 w9 := Keeps.grown ((Keeps.refl _ _).alloc _) hg9 (fun k hk _ h => h hk); have Hit9 := Lib.hid (Hit8.out.keep hk9 Hn2.out Hn1.out); have Hgo9 := Lib.hid (Hgo8.out.keep hk9 Hn3.out); clear hown9 hg9 hat9 hk9))
                go_roundg (out.length - (es ++ [e]).length)
                case measure => rw [Hgk.out]; simp at hel2 ⊢; omega
                case rel => exact ⟨es ++ [e], A9, n + 1, c9, rfl, by rw [filter_snoc, Hpt.out, if_pos rfl, List.length_append, ← Hnn.out]; rfl, rfl, Hit9.out, Hsub2.out, Hgo9.out, by rw [filter_snoc, Hpt.out, if_pos rfl]; exact Hown9.out, Hx9.out⟩
              · have Hpt := Lib.hid (show leftE out e = false by rw [Hpe.out]; simp [hk14])
                have h9 : (e.kind == 14) = false := by simpa using hk14
                clear hk14
                go_wp2_with fail
                go_roundg (out.length - (es ++ [e]).length)
                case measure => rw [Hgk.out]; simp at hel2 ⊢; omega
                case rel => exact ⟨es ++ [e], A', n, c', rfl, by rw [filter_snoc, Hpt.out, if_neg (by decide)]; exact Hnn.out, rfl, Hit8.out, Hsub2.out, Hgo8.out, by rw [filter_snoc, Hpt.out, if_neg (by decide)]; exact Hown8.out, Hx8.out⟩
end Go.Proofs.YtpkkkhgmkndpdaaGreatDoor
namespace Go.Proofs.YtpkkkhgmkndpdaaGreatDoor
open Go Go.RowKit Go.Proofs
attribute [local go_sem ↓] Go.wp_at_zero Go.wp_at_succ
section
variable {P : PrOb}
def wldForget (W : Wld P) (e : Ev) : Wld P := if e.kind = 14 then { W with forgotten := putM (fun a b : ByteArray => a == b) W.forgotten e.person true } else W
def wldStep (W : Wld P) (e : Ev) : Wld P := wldForget (wldPut W e) e
def wldOf (P : PrOb) (c : Cfg) (l : List Ev) : Wld P := (anewE l).foldl wldStep (wld0 P c)
def wldTo (P : PrOb) (c : Cfg) (la : List Ev) (k : Nat) : Wld P := (la.take k).foldl wldStep (wld0 P c)
theorem to_snoc {c : Cfg} {la : List Ev} {k : Nat} {e : Ev} (h : la[k]? = some e) : wldTo P c la (k + 1) = wldStep (wldTo P c la k) e := by
  unfold wldTo; rw [List.take_add_one, h]; simp
theorem count_events (W : Wld P) (e : Ev) : (wldCount W e).events = W.events := by
  unfold wldCount wldWorth
  repeat (first | rfl | split)
theorem step_events (W : Wld P) (e : Ev) : (wldStep W e).events = W.events ++ [e] := by
  have h : (wldPut W e).events = W.events ++ [e] := by unfold wldPut; rw [count_events]; rfl
  unfold wldStep wldForget
  split
  · exact h
  · exact h
theorem to_events (c : Cfg) (la : List Ev) : ∀ k, (wldTo P c la k).events = la.take k
  | 0 => rfl
  | k + 1 => by
    cases h : la[k]? with
    | none =>
      have hk : la.length ≤ k := by simpa using h
      have h1 : la.take (k + 1) = la.take k := by rw [List.take_of_length_le (by omega), List.take_of_length_le hk]
      have h2 : wldTo P c la (k + 1) = wldTo P c la k := by unfold wldTo; rw [h1]
      rw [h2, h1]; exact to_events c la k
    | some e => rw [to_snoc h, step_events, to_events c la k, List.take_add_one, h]; rfl
theorem forget_ok {n : Nat} {L : Option Ev} {W : Wld P} {e : Ev} (h : CntOk n L W) : CntOk n L (wldForget W e) := by
  unfold wldForget
  split
  · exact ⟨h.cat, h.crd, h.dec, h.deca, h.pan, h.pana⟩
  · exact h
def lastO (la : List Ev) : Nat → Option Ev
  | 0 => none
  | k + 1 => la[k]?
theorem aft_asc {la : List Ev} (ha : Asc la) {k : Nat} {e : Ev} (h : la[k]? = some e) : Aft (lastO la k) e := by
  cases k with
  | zero => intro x hx; cases hx
  | succ k =>
    intro x hx
    have hx' : la[k]? = some x := hx
    obtain ⟨h1, rfl⟩ := List.getElem?_eq_some_iff.1 h
    obtain ⟨h2, rfl⟩ := List.getElem?_eq_some_iff.1 hx'
    exact cmpE_one.2 (List.pairwise_iff_getElem.1 ha k (k + 1) h2 h1 (by omega))
theorem to_ok {c : Cfg} (hc : CfgOk c) {la : List Ev} (ha : Asc la) (hm : ∀ e ∈ la, mayE e = true) (ht : ∀ e ∈ la, EvTn e) : ∀ k, k ≤ la.length → CntOk k (lastO la k) (wldTo P c la k)
  | 0, _ => cnt0 P c hc
  | k + 1, hk => by
    have h : la[k]? = some la[k] := List.getElem?_eq_getElem (by omega)
    rw [to_snoc h]
    have h9 : lastO la (k + 1) = some la[k] := h
    rw [h9]
    exact forget_ok (put_ok (to_ok hc ha hm ht k (by omega)) (aft_asc ha h) (ht _ (List.getElem_mem _)) (hm _ (List.getElem_mem _)))
end
/-- Blocks that lie apart from what turns. -/
theorem Turned.parted {fp fp' : List Nat} {w w' : World} {s1 s2 : Nat} (h : Turned fp fp' w w') (hf : ∀ g ∈ fp, g < s1 ∨ s2 ≤ g) (hs : s2 ≤ w.heap.size) : ∀ g ∈ fp', g < s1 ∨ s2 ≤ g := fun g hg => by
  rcases h.grew g hg with h9 | h9
  · exact hf g h9
  · exact .inr (Nat.le_trans hs h9)
set_option maxRecDepth 100000 in
set_option maxHeartbeats 8000000 in
theorem wo_Of (P : PrOb) (c : Cfg) (A : Option Addr) (m cm : Nat) (l : List Ev) (ok : Nat → Prop) (w : World) (hcg : CfgOk c) (hs : Sl evR ok w A m l) (hm : m ≤ 100000) (hmay : ∀ e ∈ l, mayE e = true) (htn : ∀ e ∈ l, EvTn e) (hv : Vars w) :
    Calls Tryz.prog 13 #[.agg #[.int .i64 c.half, .int .i64 c.width, .int .i64 c.gap, .int .i64 c.span, .int .i64 c.floor, .int .i64 c.crowd], .slice A m cm] w fun r w' => ∃ b fp, r = .returned (.tuple #[.pointer (some ⟨b, 0, none⟩), .int .i64 0]) ∧ WldAt P w' b fp (wldOf P c l) ∧ Ext w w' ∧ ∀ g ∈ fp, w.heap.size ≤ g := by
  have Hs := Lib.hid hs
  have Hl := Lib.hid hs.1
  have Hv := Lib.hid hv
  have Hmay := Lib.hid hmay
  have Htn := Lib.hid htn
  have Hcg := Lib.hid hcg
  obtain ⟨W0, hW0⟩ : ∃ X, X = w.alloc (.cells #[.int .i64 c.half, .int .i64 c.width, .int .i64 c.gap, .int .i64 c.span, .int .i64 c.floor, .int .i64 c.crowd] 44) := ⟨_, rfl⟩
  obtain ⟨gc, hgc⟩ : ∃ g, g = w.heap.size := ⟨_, rfl⟩
  have hgb0 : W0.heap[gc]? = some (.cells #[.int .i64 c.half, .int .i64 c.width, .int .i64 c.gap, .int .i64 c.span, .int .i64 c.floor, .int .i64 c.crowd] 44) := by rw [hW0, hgc]; exact blk_new _ _
  have Hx0 := Lib.hid (show Ext w W0 by rw [hW0]; exact (Keeps.refl _ _).alloc _)
  have q0 := blk_cell hgb0 0 rfl
  have q1 := blk_cell hgb0 1 rfl
  have q2 := blk_cell hgb0 2 rfl
  have q3 := blk_cell hgb0 3 rfl
  have q4 := blk_cell hgb0 4 rfl
  have q5 := blk_cell hgb0 5 rfl
  have HN := Lib.hid (wo_New P c W0 hcg)
  clear hgb0 hcg hs hv hmay htn
  go_enter Tryz.func13, Tryz.ntmps13
  go_upto_region 1 with fail
  rw [← hW0, ← hgc]
  clear hW0 hgc
  go_upto_region 4 with (go_at_call 21; refine HN.out.mono ?_; rintro _ X ⟨b, fp0, rfl, hat0, hx0, hfp0⟩)
  have HatX := Lib.hid hat0
  have HwX := Lib.hid (Hx0.out.trans hx0)
  have Hfp0 := Lib.hid (show ∀ g ∈ fp0, w.heap.size ≤ g from fun g hg => Nat.le_trans Hx0.out.size (hfp0 g hg))
  clear hat0 hx0 hfp0 q0 q1 q2 q3 q4 q5
  go_upto_block 0 with fail
  go_cut [] (fun wx => Ext X wx)
  case first =>
    go_wp2_with fail
    go_loopw [23] (fun i wr => ∃ k : Nat, k ≤ m ∧ i = .int .i64 k ∧ Ext X wr) (fun i _ => m - (intOf i).toNat)
    case atStart => exact ⟨0, Nat.zero_le _, rfl, Keeps.refl _ _⟩
    case round =>
      obtain ⟨k, hk, rfl, hj⟩ := hrel
      have Hj := Lib.hid hj
      clear hj
      by_cases hlt : k < m
      · obtain ⟨be, oe, e, rfl, hbe, _, he, d0, d1, d2, d3, d4, d5, d6, d7⟩ := (Hs.out.ext (HwX.out.trans Hj.out)).ev hlt
        have j0 : (0 : Int) ≤ (k : Int) := by omega
        have j1 : (k : Int) < (m : Int) := by omega
        have Hme := Lib.hid (Hmay.out e (List.mem_of_getElem? he))
        have Hte := Lib.hid (Htn.out e (List.mem_of_getElem? he))
        have HM := Lib.hid (show ∀ W, Ext wr W → Calls Tryz.prog 22 #[.agg #[.string e.src, .int .i64 e.num, .int .i64 e.tick, .int .i64 e.kind, .string e.person, .string e.item, .int .i64 e.value, .string e.text]] W (fun r w' => r = .returned (.bool true) ∧ Ext W w') from fun W hx => by have h9 := ev_May e W Hte.out.sm (Hv.out.mx.ext (HwX.out.trans (Hj.out.trans hx))); rwa [Hme.out] at h9)
        clear he
        go_wp2_with (go_at_call 22; refine (HM.out _ ((Keeps.refl _ _).alloc _)).mono ?_; rintro _ Z ⟨rfl, hxZ⟩; have HE := Lib.hid (Hj.out.trans (((Keeps.refl _ _).alloc _).trans hxZ)); clear hxZ)
        go_roundw
        case rel => exact ⟨k + 1, by omega, by go_num, HE.out⟩
        case measure => simp [intOf]; omega
      · go_wp2_with fail
        go_meet
        exact Hj.out
  case rest =>
    obtain ⟨X1, hX1⟩ : ∃ X, X = wc := ⟨_, rfl⟩
    rw [← hX1] at hcut ⊢
    have Hx1 := Lib.hid hcut
    clear hX1 hcut
    have HA := Lib.hid (wo_anew A m cm l ok X1 (Hs.out.ext (HwX.out.trans Hx1.out)) hm Hmay.out (Hv.out.ext (HwX.out.trans Hx1.out)))
    obtain ⟨la, hla⟩ : ∃ la, la = anewE l := ⟨_, rfl⟩
    have Hof := Lib.hid (show wldOf P c l = wldTo P c la la.length by unfold wldOf wldTo; rw [← hla, List.take_of_length_le (Nat.le_refl _)])
    have Hasc := Lib.hid (show Asc la by rw [hla]; exact anew_asc Hmay.out)
    have Hlm := Lib.hid (show (∀ e ∈ la, mayE e = true) ∧ ∀ e ∈ la, EvTn e by
      rw [hla]
      exact ⟨anew_may Hmay.out, fun e he => Htn.out e ((anew_mem Hmay.out).1 he).1.1⟩)
    obtain ⟨n, hn⟩ : ∃ n, n = la.length := ⟨_, rfl⟩
    have hnm : n ≤ 100000 := by have := anew_len' (once_len l); have := Hl.out; rw [hn, hla]; omega
    rw [← hla, ← hn] at HA
    rw [← hn] at Hof
    have Hln := Lib.hid hn
    clear hla hn
    go_upto_region 11 with (go_at_call 23; refine HA.out.mono ?_; rintro _ X2 ⟨A2, rfl, hev2, hx2⟩)
    have Hsl := Lib.hid (show Sl evR (fun g => X1.heap.size ≤ g ∧ g < X2.heap.size) X2 A2 n la from hev2.sl.mono (fun g h1 h2 => ⟨h2, h1⟩))
    have HX2 := Lib.hid (HwX.out.trans (Hx1.out.trans hx2))
    have Hat2 := Lib.hid (HatX.out.ext (Hx1.out.trans hx2))
    have Hpt := Lib.hid (show ∀ g ∈ fp0, g < X1.heap.size ∨ X2.heap.size ≤ g from fun g hg => .inl (Nat.lt_of_lt_of_le (HatX.out.lt g hg) Hx1.out.size))
    have h12 : X1.heap.size ≤ X2.heap.size := hx2.size
    clear hev2 hx2
    go_upto_block 2 with fail
    go_cut [] (fun wx => ∃ fp, WldAt P wx b fp (wldTo P c la n) ∧ Ext w wx ∧ ∀ g ∈ fp, w.heap.size ≤ g)
    case first =>
      go_wp2_with fail
      go_loopw [38] (fun i wr => ∃ (k : Nat) (fp : List Nat), k ≤ n ∧ i = .int .i64 k ∧ WldAt P wr b fp (wldTo P c la k) ∧ (∀ g ∈ fp, g < X1.heap.size ∨ X2.heap.size ≤ g) ∧ (∀ g ∈ fp, w.heap.size ≤ g) ∧ Keeps (fun g => X1.heap.size ≤ g ∧ g < X2.heap.size) X2 wr ∧ Ext w wr) (fun i _ => n - (intOf i).toNat)
      case atStart => exact ⟨0, fp0, Nat.zero_le _, rfl, Hat2.out, Hpt.out, Hfp0.out, Keeps.refl _ _, HX2.out⟩
      case round =>
        obtain ⟨k, fp, hk, rfl, hat, hpt, hfp, hkp, hx⟩ := hrel
        have Hat := Lib.hid hat
        have Hptk := Lib.hid hpt
        have Hfp := Lib.hid hfp
        have Hkp := Lib.hid hkp
        have Hx := Lib.hid hx
        clear hat hpt hfp hkp hx
        by_cases hlt : k < n
        · obtain ⟨be, oe, e, rfl, hbe, _, he, d0, d1, d2, d3, d4, d5, d6, d7⟩ := (Hsl.out.keep Hkp.out).ev hlt
          have j0 : (0 : Int) ≤ (k : Int) := by omega
          have j1 : (k : Int) < (n : Int) := by omega
          have Hme := Lib.hid (Hlm.out.1 e (List.mem_of_getElem? he))
          have Hte := Lib.hid (Hlm.out.2 e (List.mem_of_getElem? he))
          have Hto := Lib.hid (to_snoc (P := P) (c := c) he)
          have hev := to_events (P := P) c la k
          obtain ⟨W, hW⟩ : ∃ W, W = wldTo P c la k := ⟨_, rfl⟩
          have hok := to_ok (P := P) Hcg.out Hasc.out Hlm.out.1 Hlm.out.2 k (by have := Hln.out; omega)
          rw [← hW] at Hat Hto hev hok
          have Haf := Lib.hid (aft_asc Hasc.out he)
          have Hok := Lib.hid hok
          have Hev := Lib.hid hev
          clear he hW hok hev
          obtain ⟨Y, hY⟩ : ∃ Y, Y = wr.alloc (.cells #[.string e.src, .int .i64 e.num, .int .i64 e.tick, .int .i64 e.kind, .string e.person, .string e.item, .int .i64 e.value, .string e.text] 30) := ⟨_, rfl⟩
          obtain ⟨g9, hg9⟩ : ∃ g, g = wr.heap.size := ⟨_, rfl⟩
          have hb9 : Y.heap[g9]? = some (.cells #[.string e.src, .int .i64 e.num, .int .i64 e.tick, .int .i64 e.kind, .string e.person, .string e.item, .int .i64 e.value, .string e.text] 30) := by rw [hY, hg9]; exact blk_new _ _
          have HxY := Lib.hid (show Ext wr Y by rw [hY]; exact (Keeps.refl _ _).alloc _)
          have Hb9 := Lib.hid hb9
          have H9f := Lib.hid (show g9 ∉ fp from fun hm => by have := Hat.out.lt g9 hm; omega)
          have HP := Lib.hid (wo_put P k (lastO la k) b fp W e w Y (Hat.out.ext HxY.out) (Hx.out.trans HxY.out) Hfp.out Hv.out.mx Hte.out Hme.out Hok.out Haf.out (by omega) (by rw [Hev.out, List.length_take]; omega))
          have q0 := blk_cell hb9 0 rfl
          have q1 := blk_cell hb9 1 rfl
          have q2 := blk_cell hb9 2 rfl
          have q3 := blk_cell hb9 3 rfl
          have q4 := blk_cell hb9 4 rfl
          have q5 := blk_cell hb9 5 rfl
          have q6 := blk_cell hb9 6 rfl
          have q7 := blk_cell hb9 7 rfl
          have h9l : g9 < Y.heap.size := (Array.getElem?_eq_some_iff.1 hb9).1
          clear hb9
          go_upto_region 16 with fail
          rw [← hY, ← hg9]
          clear hY hg9 d0 d1 d2 d3 d4 d5 d6 d7
          go_upto_region 17 with (go_at_call 24; refine HP.out.mono ?_; rintro _ Z ⟨rfl, fpz, hatz, htz⟩)
          have HatZ := Lib.hid hatz
          have HtZ := Lib.hid ((Turned.of_ext HxY.out).trans htz)
          have hb9z : Z.heap[g9]? = some (.cells #[.string e.src, .int .i64 e.num, .int .i64 e.tick, .int .i64 e.kind, .string e.person, .string e.item, .int .i64 e.value, .string e.text] 30) := htz.keeps.blk Hb9.out H9f.out
          have Hb9z := Lib.hid hb9z
          have h9z : g9 ∉ fpz := fun hm => by
            rcases htz.grew g9 hm with h | h
            · exact H9f.out h
            · omega
          have H9z := Lib.hid h9z
          clear hatz htz q0 q1 q2 q3 q4 q5 q6 q7
          have q3 := blk_cell hb9z 3 rfl
          have h9zl : g9 < Z.heap.size := (Array.getElem?_eq_some_iff.1 hb9z).1
          clear hb9z h9z
          by_cases hk14 : e.kind = 14
          · rw [hk14] at q3
            have hk14' : wldStep W e = { wldPut W e with forgotten := putM (fun a b : ByteArray => a == b) (wldPut W e).forgotten e.person true } := by unfold wldStep wldForget; rw [if_pos hk14]
            have Hst := Lib.hid hk14'
            clear hk14 hk14'
            obtain ⟨mf, qm, hmb, hmf, hmp, hback⟩ := wld_forgotten (HatZ.out.ext ((Keeps.refl _ Z).drew))
            obtain ⟨W2, P2, hm2, hk2, hsz2⟩ := hmp.put Tryz.underlying53 e.person true
            have P2' : (Instr.mapUpdate 53 (.map (some mf)) (.string e.person) (.bool true)).run Tryz.prog Z.drew = .ok () W2 := P2
            obtain ⟨fp2, hc2, ht2⟩ := hback W2 _ hm2 hk2
            have hm3 : g9 ≠ mf := fun e9 => H9z.out (e9 ▸ hmf)
            have hk5 : Keeps (fun g => g = b ∨ g = g9) Z W2 := ((Keeps.refl _ Z).drew).then_ hk2 (fun g _ hg e9 => by rcases hg with rfl | rfl; exact hmb e9.symm; exact hm3 e9)
            have hbZ : b < Z.heap.size := HatZ.out.root.2
            have HS := Lib.hid (fun (w' : World) (hk : Keeps (fun g => g = b ∨ g = g9) Z w') => show w'.cell? ⟨b, 17, none⟩ = some (.map (some mf)) ∧ w'.cell? ⟨g9, 4, none⟩ = some (.string e.person) from ⟨(hk.cell (p := ⟨b, 17, none⟩) hbZ (.inl rfl)).trans qm, blk_cell (hk.blk Hb9z.out (.inr rfl)) 4 rfl⟩)
            have htt := HtZ.out.trans ((Turned.of_ext ((Keeps.refl _ Z).drew)).trans ht2)
            have HE := Lib.hid (show WldAt P W2 b fp2 (wldTo P c la (k + 1)) ∧ (∀ g ∈ fp2, g < X1.heap.size ∨ X2.heap.size ≤ g) ∧ (∀ g ∈ fp2, w.heap.size ≤ g) ∧ Keeps (fun g => X1.heap.size ≤ g ∧ g < X2.heap.size) X2 W2 ∧ Ext w W2 from
              ⟨by rw [Hto.out, Hst.out]; exact hc2, htt.parted Hptk.out Hkp.out.size, (htt.over Hx.out Hfp.out).2, Hkp.out.then_ htt.keeps (fun g _ hg hm => by have := Hptk.out g hm; omega), (htt.over Hx.out Hfp.out).1⟩)
            clear P2 hmp hback hm2 hk2 hsz2 hc2 ht2 qm hmb hmf hm3 htt
            go_upto_region 18 with fail
            refine wp_region_held_drew (S := fun w' => w'.cell? ⟨b, 17, none⟩ = some (.map (some mf)) ∧ w'.cell? ⟨g9, 4, none⟩ = some (.string e.person)) (by kernel_rfl) (by exact HS.out Z.drew ((Keeps.refl _ _).drew)) (fun hHeld => ?_)
            change wpAnyH _ _ _ _ _ _ #[false, false, false, false, false, false, false] _ _
            refine wpAnyH_take (i := 0) (oi := { dst := some 48, op := Go.Op.move (Go.Operand.tmp 6), type := 39, pos := "world.go:178", after := #[], guard := none }) (v := ?_) rfl (by kernel_rfl) (by kernel_rfl) (by kernel_rfl) (fun _ _ _ h => h) (Or.inl ⟨by rfl, ?_⟩) hHeld ?_
            rotate_left
            · intro w hSw
              (try dsimp only at hSw)
              go_simp
              all_goals (with_reducible rfl)
            try simp only [Act.put, List.setIfInBounds_toArray, List.set_cons_zero, List.set_cons_succ]
            refine wpAnyH_take (i := 1) (oi := { dst := some 49, op := Go.Op.nilCheck (Go.Operand.tmp 48), type := 0, pos := "world.go:178", after := #[{ on := 0, ground := Go.Ground.data }], guard := none }) (v := ?_) rfl (by kernel_rfl) (by kernel_rfl) (by kernel_rfl) (fun _ _ _ h => h) (Or.inl ⟨by rfl, ?_⟩) hHeld ?_
            rotate_left
            · intro w hSw
              (try dsimp only at hSw)
              go_simp
              all_goals (with_reducible rfl)
            try simp only [Act.put, List.setIfInBounds_toArray, List.set_cons_zero, List.set_cons_succ]
            refine wpAnyH_take (i := 2) (oi := { dst := some 50, op := Go.Op.fieldAddr 61 (Go.Operand.tmp 49) 5, type := 0, pos := "world.go:178", after := #[{ on := 1, ground := Go.Ground.data }], guard := none }) (v := ?_) rfl (by kernel_rfl) (by kernel_rfl) (by kernel_rfl) (fun _ _ _ h => h) (Or.inl ⟨by rfl, ?_⟩) hHeld ?_
            rotate_left
            · intro w hSw
              (try dsimp only at hSw)
              go_simp
              all_goals (with_reducible rfl)
            try simp only [Act.put, List.setIfInBounds_toArray, List.set_cons_zero, List.set_cons_succ]
            refine wpAnyH_take (i := 3) (oi := { dst := some 51, op := Go.Op.load 53 (Go.Operand.tmp 50), type := 53, pos := "world.go:178", after := #[{ on := 2, ground := Go.Ground.data }], guard := none }) (v := ?_) rfl (by kernel_rfl) (by kernel_rfl) (by kernel_rfl) (fun _ _ _ h => h) (Or.inl ⟨by rfl, ?_⟩) hHeld ?_
            rotate_left
            · intro w hSw
              (try dsimp only at hSw)
              go_simp
              all_goals (with_reducible rfl)
            try simp only [Act.put, List.setIfInBounds_toArray, List.set_cons_zero, List.set_cons_succ]
            refine wpAnyH_take (i := 4) (oi := { dst := some 52, op := Go.Op.fieldAddr 30 (Go.Operand.tmp 12) 4, type := 0, pos := "world.go:178", after := #[], guard := none }) (v := ?_) rfl (by kernel_rfl) (by kernel_rfl) (by kernel_rfl) (fun _ _ _ h => h) (Or.inl ⟨by rfl, ?_⟩) hHeld ?_
            rotate_left
            · intro w hSw
              (try dsimp only at hSw)
              go_simp
              all_goals (with_reducible rfl)
            try simp only [Act.put, List.setIfInBounds_toArray, List.set_cons_zero, List.set_cons_succ]
            refine wpAnyH_take (i := 5) (oi := { dst := some 53, op := Go.Op.load 9 (Go.Operand.tmp 52), type := 9, pos := "world.go:178", after := #[{ on := 4, ground := Go.Ground.data }], guard := none }) (v := ?_) rfl (by kernel_rfl) (by kernel_rfl) (by kernel_rfl) (fun _ _ _ h => h) (Or.inl ⟨by rfl, ?_⟩) hHeld ?_
            rotate_left
            · intro w hSw
              (try dsimp only at hSw)
              go_simp
              all_goals (with_reducible rfl)
            try simp only [Act.put, List.setIfInBounds_toArray, List.set_cons_zero, List.set_cons_succ]
            refine wpAnyH_ready (rs := [6]) (by kernel_rfl) (by simp) ?_
            refine (AllReadyH.cons (o := { dst := none, op := Go.Op.mapUpdate 53 (Go.Operand.tmp 51) (Go.Operand.tmp 53) (Go.Operand.const (Go.Value.bool true)), type := 0, pos := "world.go:178", after := #[{ on := 3, ground := Go.Ground.data }, { on := 5, ground := Go.Ground.data }, { on := 0, ground := Go.Ground.phase }, { on := 1, ground := Go.Ground.phase }, { on := 2, ground := Go.Ground.phase }, { on := 3, ground := Go.Ground.phase }, { on := 4, ground := Go.Ground.phase }, { on := 5, ground := Go.Ground.phase }], guard := none }) rfl (fun K hK => ?_) AllReadyH.nil)
            go_simp
            refine hK.out _ _ (by exact HS.out _ (by repeat (first | with_reducible exact hk5 | with_reducible exact Keeps.refl _ _ | with_reducible refine Keeps.drew ?_ | with_reducible refine Keeps.drewN ?_ _ | with_reducible refine Keeps.alloc ?_ _ | with_reducible refine Keeps.setCell ?_ (by first | (intro h; simp at h; done) | (intro _; simp; done) | (intro _; simp; omega) | (intro h; simp at h; omega)) _))) (fun hHeld => ?_)
            clear hK K
            try simp only [List.setIfInBounds_toArray, List.set_cons_zero, List.set_cons_succ]
            refine wpAnyH_done (by kernel_rfl) ?_ _
            clear hHeld hk5
            go_wp2_with fail
            go_roundw
            case rel => exact ⟨k + 1, fp2, by omega, by go_num, HE.out.1, HE.out.2.1, HE.out.2.2.1, HE.out.2.2.2.1, HE.out.2.2.2.2⟩
            case measure => simp [intOf]; omega
          · have hkd : decide (e.kind = 14) = false := by simpa using hk14
            have hst : wldStep W e = wldPut W e := by unfold wldStep wldForget; rw [if_neg hk14]
            have HE := Lib.hid (show WldAt P Z b fpz (wldTo P c la (k + 1)) ∧ (∀ g ∈ fpz, g < X1.heap.size ∨ X2.heap.size ≤ g) ∧ (∀ g ∈ fpz, w.heap.size ≤ g) ∧ Keeps (fun g => X1.heap.size ≤ g ∧ g < X2.heap.size) X2 Z ∧ Ext w Z from
              ⟨by rw [Hto.out, hst]; exact HatZ.out, HtZ.out.parted Hptk.out Hkp.out.size, (HtZ.out.over Hx.out Hfp.out).2, Hkp.out.then_ HtZ.out.keeps (fun g _ hg hm => by have := Hptk.out g hm; omega), (HtZ.out.over Hx.out Hfp.out).1⟩)
            clear hst
            go_wp2_with fail
            go_roundw
            case rel => exact ⟨k + 1, fpz, by omega, by go_num, HE.out.1, HE.out.2.1, HE.out.2.2.1, HE.out.2.2.2.1, HE.out.2.2.2.2⟩
            case measure => simp [intOf]; omega
        · obtain rfl : k = n := by omega
          go_wp2_with fail
          go_meet
          exact ⟨fp, Hat.out, Hx.out, Hfp.out⟩
    case rest =>
      obtain ⟨fp, hat, hx, hfp⟩ := hcut
      have Hf := Lib.hid (show WldAt P wc b fp (wldOf P c l) by rw [Hof.out]; exact hat)
      have Hx := Lib.hid hx
      have Hfp := Lib.hid hfp
      clear hat hx hfp
      go_wp2_with fail
      refine bodyPost_ret (v := .tuple #[.pointer (some ⟨b, 0, none⟩), .int .i64 0]) (by simp [results, Tryz.results13, go_sem]) rfl ⟨b, fp, rfl, Hf.out, Hx.out, Hfp.out⟩
/-- No pairs at all. -/
def noPr : PrOb where
  γ := Unit
  O := { rep := fun _ h fp _ => h = none ∧ fp = [], lt := fun h g hg => (by rw [h.2] at hg; cases hg), nd := fun h => (by rw [h.2]; exact List.nodup_nil), keep := fun h _ => h }
  nil := ()
  none_ := fun _ => ⟨rfl, rfl⟩
set_option maxRecDepth 100000 in
set_option maxHeartbeats 4000000 in
theorem wo_Of_no (c : Cfg) (A : Option Addr) (m cm : Nat) (l : List Ev) (ok : Nat → Prop) (w : World) (hcg : CfgOk c) (hs : Sl evR ok w A m l) (hm : m ≤ 100000) (hno : l.all mayE = false) (htn : ∀ e ∈ l, EvTn e) (hv : Mx w) :
    Calls Tryz.prog 13 #[.agg #[.int .i64 c.half, .int .i64 c.width, .int .i64 c.gap, .int .i64 c.span, .int .i64 c.floor, .int .i64 c.crowd], .slice A m cm] w fun r w' => r = .returned (.tuple #[.pointer none, .int .i64 1]) ∧ Ext w w' := by
  have Hs := Lib.hid hs
  have Hl := Lib.hid hs.1
  have Hv := Lib.hid hv
  have Hno := Lib.hid hno
  have Htn := Lib.hid htn
  obtain ⟨W0, hW0⟩ : ∃ X, X = w.alloc (.cells #[.int .i64 c.half, .int .i64 c.width, .int .i64 c.gap, .int .i64 c.span, .int .i64 c.floor, .int .i64 c.crowd] 44) := ⟨_, rfl⟩
  obtain ⟨gc, hgc⟩ : ∃ g, g = w.heap.size := ⟨_, rfl⟩
  have hgb0 : W0.heap[gc]? = some (.cells #[.int .i64 c.half, .int .i64 c.width, .int .i64 c.gap, .int .i64 c.span, .int .i64 c.floor, .int .i64 c.crowd] 44) := by rw [hW0, hgc]; exact blk_new _ _
  have Hx0 := Lib.hid (show Ext w W0 by rw [hW0]; exact (Keeps.refl _ _).alloc _)
  have q0 := blk_cell hgb0 0 rfl
  have q1 := blk_cell hgb0 1 rfl
  have q2 := blk_cell hgb0 2 rfl
  have q3 := blk_cell hgb0 3 rfl
  have q4 := blk_cell hgb0 4 rfl
  have q5 := blk_cell hgb0 5 rfl
  have HN := Lib.hid (wo_New noPr c W0 hcg)
  clear hgb0 hcg hs hv hno htn
  go_enter Tryz.func13, Tryz.ntmps13
  go_upto_region 1 with fail
  rw [← hW0, ← hgc]
  clear hW0 hgc
  go_upto_region 4 with (go_at_call 21; refine HN.out.mono ?_; rintro _ X ⟨b, fp0, rfl, _, hx0, _⟩)
  have HwX := Lib.hid (Hx0.out.trans hx0)
  clear hx0 q0 q1 q2 q3 q4 q5
  go_wp2_with fail
  go_loopw [23] (fun i wr => ∃ k : Nat, k ≤ m ∧ i = .int .i64 k ∧ (l.take k).all mayE = true ∧ Ext X wr) (fun i _ => m - (intOf i).toNat)
  case atStart => exact ⟨0, Nat.zero_le _, rfl, rfl, Keeps.refl _ _⟩
  case round =>
    obtain ⟨k, hk, rfl, hal, hj⟩ := hrel
    have Hj := Lib.hid hj
    have Hal := Lib.hid hal
    clear hj hal
    by_cases hlt : k < m
    · obtain ⟨be, oe, e, rfl, hbe, _, he, d0, d1, d2, d3, d4, d5, d6, d7⟩ := (Hs.out.ext (HwX.out.trans Hj.out)).ev hlt
      have j0 : (0 : Int) ≤ (k : Int) := by omega
      have j1 : (k : Int) < (m : Int) := by omega
      have Hte := Lib.hid (Htn.out e (List.mem_of_getElem? he))
      have Hsn := Lib.hid (show (l.take (k + 1)).all mayE = mayE e by rw [List.take_add_one, he, List.all_append, Hal.out]; simp)
      have HM := Lib.hid (show ∀ W, Ext wr W → Calls Tryz.prog 22 #[.agg #[.string e.src, .int .i64 e.num, .int .i64 e.tick, .int .i64 e.kind, .string e.person, .string e.item, .int .i64 e.value, .string e.text]] W (fun r w' => r = .returned (.bool (mayE e)) ∧ Ext W w') from fun W hx => ev_May e W Hte.out.sm (Hv.out.ext (HwX.out.trans (Hj.out.trans hx))))
      obtain ⟨mb, hmb⟩ : ∃ mb, mb = mayE e := ⟨_, rfl⟩
      rw [← hmb] at HM Hsn
      clear he hmb
      cases mb
      · go_wp2_with (go_at_call 22; refine (HM.out _ ((Keeps.refl _ _).alloc _)).mono ?_; rintro _ Z ⟨rfl, hxZ⟩; have HE := Lib.hid (Hj.out.trans (((Keeps.refl _ _).alloc _).trans hxZ)); clear hxZ)
        refine bodyPost_ret (v := .tuple #[.pointer none, .int .i64 1]) (by simp [results, Tryz.results13, go_sem]) rfl ⟨rfl, HwX.out.trans HE.out⟩
      · go_wp2_with (go_at_call 22; refine (HM.out _ ((Keeps.refl _ _).alloc _)).mono ?_; rintro _ Z ⟨rfl, hxZ⟩; have HE := Lib.hid (Hj.out.trans (((Keeps.refl _ _).alloc _).trans hxZ)); clear hxZ)
        go_roundw
        case rel => exact ⟨k + 1, by omega, by go_num, Hsn.out, HE.out⟩
        case measure => simp [intOf]; omega
    · have h9 := Hal.out
      rw [List.take_of_length_le (by have := Hl.out; omega), Hno.out] at h9
      cases h9
set_option maxRecDepth 100000 in
set_option maxHeartbeats 4000000 in
theorem wo_Events (P : PrOb) (b : Nat) (fp : List Nat) (W : Wld P) (w : World) (h : WldAt P w b fp W) (hn : W.events.length ≤ 100000) :
    Calls Tryz.prog 15 #[.pointer (some ⟨b, 0, none⟩)] w fun r w' => ∃ A' c', r = .returned (.slice A' W.events.length c') ∧ Own evR 30 (fun _ => True) w' w.heap.size (.slice A' W.events.length c') W.events.length W.events ∧ Ext w w' := by
  obtain ⟨v, fs, qv, hrow, _, _, _⟩ := wld_events h
  obtain ⟨A0, c0, rfl⟩ := hrow.form
  have HC := Lib.hid (evs_Clone A0 W.events.length c0 W.events _ w hrow.sl hn)
  clear hrow h
  go_enter Tryz.func15, Tryz.ntmps15
  go_wp2_with (go_at_call 33; refine HC.out.mono ?_; rintro _ Z ⟨A', c', rfl, hown, hx⟩; have Hown := Lib.hid hown; have Hx := Lib.hid hx; clear hown hx)
  go_ret
  exact ⟨A', c', rfl, Hown.out, Hx.out⟩
end Go.Proofs.YtpkkkhgmkndpdaaGreatDoor
