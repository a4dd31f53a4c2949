/-
  What is proved here: the cases of events, by the program (judge.cases): the first loop. Conditions: events that may be, at most a hundred thousand.
  the cases of any events, by the program (judge.Cases). Conditions: at most a hundred thousand events of short texts; the library's variables, and the names of the kinds, hold what their text lays.
-/
import Derived.Test.YtpkkkhgmkndpdaaGreatDoorWoOf
import Derived.Test.YtpkkkhgmkndpdaaGreatDoorOb
import Derived.Test.YtpkkkhgmkndpdaaGreatDoorIt
namespace Go.Proofs.YtpkkkhgmkndpdaaGreatDoor
open Go Go.RowKit Go.Proofs
attribute [local go_sem ↓] Go.wp_at_zero Go.wp_at_succ
/-- Two maps: what a person took, and the items of each day. -/
structure JcAt (w : World) (ms mi : Nat) (s : List (Twt × Bool) × List (Idt × List ByteArray)) (wr : World) (f : List Nat) : Prop where
  seen : Mp (twK deedT) boolV wr ms s.1
  items : MapOf (idK dayT) (fun v : Value => v) (rowOb strR 9) wr mi f s.2
  apart : ms ∉ f
  old : w.heap.size ≤ ms ∧ ∀ g ∈ f, w.heap.size ≤ g
  ext : Ext w wr
theorem JcAt.go {w wr wr' : World} {ms mi : Nat} {s : List (Twt × Bool) × List (Idt × List ByteArray)} {f : List Nat} (h : JcAt w ms mi s wr f) (hx : Ext wr wr') : JcAt w ms mi s wr' f :=
  ⟨h.seen.ext hx, Ob.ext (O := mapOb (idK dayT) (fun v : Value => v) (rowOb strR 9)) h.items hx, h.apart, h.old, h.ext.trans hx⟩
theorem cas_no {s : List (Twt × Bool) × List (Idt × List ByteArray)} {e : Ev} (h : tookE e = false) : casStep s e = s := by unfold casStep; rw [h]; rfl
theorem cas_seen {s : List (Twt × Bool) × List (Idt × List ByteArray)} {e : Ev} (h : seenP s.1 (e.person, e.item) = true) : casStep s e = s := by unfold casStep; rw [h]; simp
theorem cas_yes {s : List (Twt × Bool) × List (Idt × List ByteArray)} {e : Ev} (h : tookE e = true) (h2 : seenP s.1 (e.person, e.item) = false) : casStep s e = (putM (fun a b : Twt => a.1 == b.1 && a.2 == b.2) s.1 (e.person, e.item) true, putM (fun a b : Idt => a.1 == b.1 && a.2 == b.2) s.2 (e.person, e.tick / 86400) (itsP s.2 (e.person, e.tick / 86400) ++ [e.item])) := by unfold casStep; rw [h, h2]; rfl
theorem its_len {l : List Ev} (k : Idt) : (itsP (casS l).2 k).length ≤ l.length := by
  unfold casS
  suffices ∀ (l : List Ev) (s : List (Twt × Bool) × List (Idt × List ByteArray)), (itsP (l.foldl casStep s).2 k).length ≤ (itsP s.2 k).length + l.length by
    have h9 := this l ([], [])
    have h0 : (itsP ([] : List (Idt × List ByteArray)) k).length = 0 := rfl
    have h1 : (itsP (([], []) : List (Twt × Bool) × List (Idt × List ByteArray)).2 k).length = 0 := rfl
    omega
  intro l
  induction l with
  | nil => intro s; simp
  | cons e l ih =>
    intro s
    have h1 := ih (casStep s e)
    have h2 : (itsP (casStep s e).2 k).length ≤ (itsP s.2 k).length + 1 := by
      unfold casStep
      split
      · by_cases hk : k = (e.person, dayE e)
        · subst hk
          simp only [itsP_self]
          simp
        · simp only [itsP_ne _ _ hk]
          omega
      · omega
    simp only [List.foldl_cons, List.length_cons]
    omega
theorem putM_keys {κ β : Type} (eq : κ → κ → Bool) (l : List (κ × β)) (k : κ) (v : β) : ∀ x ∈ (putM eq l k v).map (·.1), x ∈ l.map (·.1) ∨ x = k := by
  intro x hx
  unfold putM at hx
  split at hx
  · left
    rw [List.map_map] at hx
    obtain ⟨p, hp, rfl⟩ := List.mem_map.1 hx
    refine List.mem_map.2 ⟨p, hp, ?_⟩
    simp only [Function.comp]
    split <;> rfl
  · rw [List.map_append] at hx
    rcases List.mem_append.1 hx with h | h
    · exact .inl h
    · simp at h; exact .inr h
theorem putM_len {κ β : Type} (eq : κ → κ → Bool) (l : List (κ × β)) (k : κ) (v : β) : (putM eq l k v).length ≤ l.length + 1 := by
  unfold putM
  split <;> simp
theorem cas_keys (Pk : Idt → Prop) : ∀ (l : List Ev) (s : List (Twt × Bool) × List (Idt × List ByteArray)), (∀ x ∈ s.2.map (·.1), Pk x) → (∀ e ∈ l, Pk (e.person, dayE e)) → ∀ x ∈ (l.foldl casStep s).2.map (·.1), Pk x
  | [], _, h, _ => h
  | e :: l, s, h, k => by
    rw [List.foldl_cons]
    refine cas_keys Pk l (casStep s e) (fun x hx => ?_) (fun e' he => k e' (by simp [he]))
    unfold casStep at hx
    split at hx
    · rcases putM_keys (fun a b : Idt => a.1 == b.1 && a.2 == b.2) s.2 (e.person, dayE e) (itsP s.2 (e.person, dayE e) ++ [e.item]) x hx with h9 | h9
      · exact h x h9
      · rw [h9]; exact k e (by simp)
    · exact h x hx
theorem cas_len : ∀ (l : List Ev) (s : List (Twt × Bool) × List (Idt × List ByteArray)), (l.foldl casStep s).2.length ≤ s.2.length + l.length
  | [], _ => by simp
  | e :: l, s => by
    rw [List.foldl_cons]
    have h1 := cas_len l (casStep s e)
    have h2 : (casStep s e).2.length ≤ s.2.length + 1 := by
      unfold casStep
      split
      · exact putM_len (fun a b : Idt => a.1 == b.1 && a.2 == b.2) s.2 (e.person, dayE e) (itsP s.2 (e.person, dayE e) ++ [e.item])
      · omega
    simp only [List.length_cons]
    omega
/-- A case: its items lie in a slice. -/
def casR : Rep Cas where
  size := 3
  rep ok w d xs := ∃ A c, xs = [.string d.person, .int .i64 d.tick, .slice A d.items.length c] ∧ d.items.length ≤ c ∧ Sl strR ok w A d.items.length d.items
  len h := by obtain ⟨A, c, rfl, _⟩ := h; rfl
  one h u hu := by
    obtain ⟨A, c, rfl, _⟩ := h
    simp at hu
    rcases hu with rfl | rfl | rfl <;> rfl
  keep hk h := by obtain ⟨A, c, rfl, hc, hs⟩ := h; exact ⟨A, c, rfl, hc, hs.keep hk⟩
  mono hm h := by obtain ⟨A, c, rfl, hc, hs⟩ := h; exact ⟨A, c, rfl, hc, hs.mono hm⟩
theorem info_cas : (Tryz.prog.info? 36).map (fun i => (i.zero, i.size, i.bytes)) = some (some (.agg #[.string ⟨#[]⟩, .int .i64 0, .slice none 0 0]), 3, 48) := by kernel_rfl
theorem texts_of_row {t : TypeId} {w : World} {v : Value} {fs : List Nat} {l : List ByteArray} (h : RowAt strR t w v fs l) : TextsIn w.heap.size w v l := by
  obtain ⟨A, c, hv⟩ := h.form
  subst hv
  have hs := h.sl
  by_cases hl : l.length = 0
  · rcases h.own.2.choose_spec.1.2 with ⟨hv, _⟩ | ⟨g, cap, cur, hv, _, hg, _⟩
    · injection hv with h1 _ _
      exact .inl ⟨⟨c, by rw [h1, hl]⟩, List.eq_nil_of_length_eq_zero hl⟩
    · injection hv with h1 _ _
      exact .inr ⟨g, 0, c, by rw [h1], (Array.getElem?_eq_some_iff.1 hg).1, fun j hj => by omega⟩
  · obtain ⟨b, o, s, rfl, hb, _, _, _⟩ := hs.str (k := 0) (by omega)
    refine .inr ⟨b, o, c, rfl, hb, fun j hj => ?_⟩
    obtain ⟨b', o', s', he, _, _, h1, h2⟩ := hs.str hj
    injection he with he
    injection he with e1 e2 _
    subst e1 e2
    rw [h2, h1]; rfl
theorem Sl.day {ok : Nat → Prop} {w : World} {A : Option Addr} {n : Nat} {l : List Idt} (h : Sl dayR ok w A n l) {k : Nat} (hk : k < n) : ∃ (b o : Nat) (d : Idt), A = some ⟨b, o, none⟩ ∧ b < w.heap.size ∧ ok b ∧ l[k]? = some d ∧ w.cell? ⟨b, o + k * 2, none⟩ = some (.string d.1) ∧ w.cell? ⟨b, o + k * 2 + 1, none⟩ = some (.int .i64 d.2) := by
  obtain ⟨b, o, e, xs, rfl, hb, ho, he, rfl, hc⟩ := h.at_ hk
  exact ⟨b, o, e, rfl, hb, ho, he, hc 0 _ rfl, hc 1 _ rfl⟩
theorem zero_strs (w : World) : (zeroValue 34).run Tryz.prog w = .ok (.slice none 0 0) w := by kernel_rfl
set_option maxRecDepth 100000 in
set_option maxHeartbeats 8000000 in
theorem ju_cases (A : Option Addr) (n c : Nat) (l : List Ev) (ok : Nat → Prop) (w : World) (hs : Sl evR ok w A n l) (hn : n ≤ 100000) (hmay : ∀ e ∈ l, mayE e = true) (hasc : Asc l) :
    Calls Tryz.prog 14 #[.slice A n c] w fun r w' => ∃ (A' : Option Addr) (n' c' : Nat), r = .returned (.slice A' n' c') ∧ Sl casR (fun g => w.heap.size ≤ g) w' A' n' (casesR l) ∧ Ext w w' := by
  have Hs := Lib.hid hs
  have Hl := Lib.hid hs.1
  have Hmay := Lib.hid hmay
  have Hasc := Lib.hid hasc
  have hmm := @run_makeMap Tryz.prog
  obtain ⟨i0, hi0, hz0, hz1, hz2⟩ := info_of3 info_strD
  obtain ⟨ms, hms⟩ : ∃ g, g = w.heap.size := ⟨_, rfl⟩
  obtain ⟨mi, hmi⟩ : ∃ g, g = w.heap.size + 1 := ⟨_, rfl⟩
  obtain ⟨W0, hW0⟩ : ∃ X, X = (w.alloc (.map #[] 0)).alloc (.map #[] 0) := ⟨_, rfl⟩
  have H0 := Lib.hid (show JcAt w ms mi ([], []) W0 [mi] from ⟨by rw [hW0, hms]; exact (Mp.new w).ext ((Keeps.refl _ _).alloc _), by
      have h9 := MapOf.new (K := (idK dayT)) (V := fun v : Value => v) (O := (rowOb strR 9)) (w.alloc (.map #[] 0))
      rw [hW0, hmi]
      simpa using h9, by rw [hms, hmi]; simp, ⟨by omega, fun g hg => by rw [List.mem_singleton.1 hg]; omega⟩, by rw [hW0]; exact ((Keeps.refl _ _).alloc _).alloc _⟩)
  clear hs hmay hasc
  go_enter Tryz.func14, Tryz.ntmps14
  go_upto_region 3 with fail
  rw [← hW0, ← hmi, ← hms]
  clear hW0 hms hmi
  go_upto_block 0 with fail
  go_cut [] (fun wx => ∃ f, JcAt w ms mi (casS l) wx f)
  case first =>
    go_wp2_with fail
    go_loopw [17] (fun i wr => ∃ (k : Nat) (f : List Nat), k ≤ n ∧ i = .int .i64 k ∧ JcAt w ms mi (casS (l.take k)) wr f) (fun i _ => n - (intOf i).toNat)
    case atStart => exact ⟨0, [mi], Nat.zero_le _, rfl, H0.out⟩
    case round =>
      obtain ⟨k, f, hk, rfl, hj⟩ := hrel
      have Hj := Lib.hid hj
      clear hj
      by_cases hlt : k < n
      · obtain ⟨be, oe, e, rfl, hbe, _, he, d0, d1, d2, d3, d4, d5, d6, d7⟩ := (Hs.out.ext Hj.out.ext).ev hlt
        have j0 : (0 : Int) ≤ (k : Int) := by omega
        have j1 : (k : Int) < (n : Int) := by omega
        have Hme := Lib.hid (Hmay.out e (List.mem_of_getElem? he))
        have Hsn := Lib.hid (cas_snoc he)
        obtain ⟨s, hS⟩ : ∃ s, s = casS (l.take k) := ⟨_, rfl⟩
        have Hlen := Lib.hid (show (itsP s.2 (e.person, e.tick / 86400)).length ≤ 100000 by
          rw [hS]
          have h9 := its_len (l := l.take k) (e.person, e.tick / 86400)
          have h8 : (l.take k).length ≤ k := List.length_take_le _ _
          omega)
        rw [← hS] at Hj Hsn
        clear he hS
        obtain ⟨X, hX⟩ : ∃ X, X = wr.alloc (.cells #[.string e.src, .int .i64 e.num, .int .i64 e.tick, .int .i64 e.kind, .string e.person, .string e.item, .int .i64 e.value, .string e.text] 30) := ⟨_, rfl⟩
        obtain ⟨g6, hg6⟩ : ∃ g, g = wr.heap.size := ⟨_, rfl⟩
        have hb6 : X.heap[g6]? = some (.cells #[.string e.src, .int .i64 e.num, .int .i64 e.tick, .int .i64 e.kind, .string e.person, .string e.item, .int .i64 e.value, .string e.text] 30) := by rw [hX, hg6]; exact blk_new _ _
        have HxX := Lib.hid (show Ext wr X by rw [hX]; exact (Keeps.refl _ _).alloc _)
        have Hb6 := Lib.hid hb6
        have q2 := blk_cell hb6 2 rfl
        have q3 := blk_cell hb6 3 rfl
        have q4 := blk_cell hb6 4 rfl
        have q5 := blk_cell hb6 5 rfl
        have H6w := Lib.hid (show wr.heap.size ≤ g6 by omega)
        clear hb6
        go_upto_region 6 with fail
        rw [← hX, ← hg6]
        clear hX hg6 d0 d1 d2 d3 d4 d5 d6 d7
        by_cases hk2 : e.kind = 2 ∨ e.kind = 3
        · have Htk := Lib.hid (show tookE e = true by unfold tookE; rw [Bool.or_eq_true, decide_eq_true_eq, decide_eq_true_eq]; exact hk2)
          go_cut [28] (fun s28 wx => s28 = .bool false ∧ wx = X)
          case first =>
            rcases hk2 with h9 | h9 <;> rw [h9] at q3 <;> clear h9
            all_goals
              go_wp2_with fail
              go_meet
              exact ⟨rfl, rfl⟩
          case rest =>
            obtain ⟨h28, hcw⟩ := hcut
            subst h28 hcw
            obtain ⟨g7, hg7⟩ : ∃ g, g = wc.heap.size := ⟨_, rfl⟩
            obtain ⟨Y, hY⟩ : ∃ Y, Y = wc.alloc (.cells #[.string e.person, .string e.item] 65) := ⟨_, rfl⟩
            have hb7 : Y.heap[g7]? = some (.cells #[.string e.person, .string e.item] 65) := by rw [hY, hg7]; exact blk_new _ _
            have HxY := Lib.hid (show Ext wc Y by rw [hY]; exact (Keeps.refl _ _).alloc _)
            have HjY := Lib.hid (Hj.out.go (HxX.out.trans HxY.out))
            have Hb7 := Lib.hid hb7
            have Hb6Y := Lib.hid (HxY.out.blk Hb6.out)
            have H7w := Lib.hid (show wr.heap.size ≤ g7 by have := HxX.out.size; omega)
            have r0 := blk_cell hb7 0 rfl
            have r1 := blk_cell hb7 1 rfl
            have ht2 := (head_tick Hme.out).1
            obtain ⟨sb, hsb⟩ : ∃ sb, sb = seenP s.1 (e.person, e.item) := ⟨_, rfl⟩
            have L : (Instr.lookup 62 (.map (some ms)) (.agg #[.string e.person, .string e.item]) false).run Tryz.prog Y = .ok (.bool sb) Y := by rw [hsb]; exact HjY.out.seen.look1 (z := false) Tryz.underlying62 (zero_bo Y) (e.person, e.item)
            have Hsb := Lib.hid hsb
            clear hb7 hsb
            go_upto_region 8 with fail
            rw [← hY, ← hg7]
            clear hY hg7 q2 q3 q4 q5
            cases sb
            · have Hcy := Lib.hid (show casS (l.take (k + 1)) = (putM (fun a b : Twt => a.1 == b.1 && a.2 == b.2) s.1 (e.person, e.item) true, putM (fun a b : Idt => a.1 == b.1 && a.2 == b.2) s.2 (e.person, e.tick / 86400) (itsP s.2 (e.person, e.tick / 86400) ++ [e.item])) by rw [Hsn.out]; exact cas_yes Htk.out Hsb.out.symm)
              obtain ⟨Z, P1, hmZ, hkZ, hszZ⟩ := HjY.out.seen.put Tryz.underlying62 (e.person, e.item) true
              have P1' : (Instr.mapUpdate 62 (.map (some ms)) (.agg #[.string e.person, .string e.item]) (.bool true)).run Tryz.prog Y = .ok () Z := P1
              have hoZ := (mapOb (idK dayT) (fun v : Value => v) (rowOb strR 9)).keep HjY.out.items (hkZ.mono fun g _ hg e9 => HjY.out.apart (e9 ▸ hg))
              have hms6 : ms < wr.heap.size := Hj.out.seen.lt
              have H6Z := Lib.hid (hkZ.blk Hb6Y.out (show g6 ≠ ms by have := H6w.out; omega))
              have HmZ := Lib.hid hmZ
              have HoZ := Lib.hid hoZ
              have HkZ := Lib.hid hkZ
              have hszY := HxY.out.size
              have hszX := HxX.out.size
              have p2 := blk_cell H6Z.out 2 rfl
              have p4 := blk_cell H6Z.out 4 rfl
              have p5 := blk_cell H6Z.out 5 rfl
              have h6l : g6 < Z.heap.size := (Array.getElem?_eq_some_iff.1 H6Z.out).1
              have HszZ := Lib.hid (show wr.heap.size ≤ Z.heap.size by omega)
              clear P1 hmZ hkZ hoZ hszZ hszY hszX
              obtain ⟨dy, hdy⟩ : ∃ d, d = e.tick / 86400 := ⟨_, rfl⟩
              have ht3 := (head_tick Hme.out).2
              have Hdy := Lib.hid hdy
              clear hdy
              go_upto_region 10 with fail
              clear r0 r1 L
              obtain ⟨g8, hg8⟩ : ∃ g, g = Z.heap.size := ⟨_, rfl⟩
              obtain ⟨V, hV⟩ : ∃ V, V = Z.alloc (.cells #[.string e.person, .int .i64 dy] 67) := ⟨_, rfl⟩
              have hb8 : V.heap[g8]? = some (.cells #[.string e.person, .int .i64 dy] 67) := by rw [hV, hg8]; exact blk_new _ _
              have HxV := Lib.hid (show Ext Z V by rw [hV]; exact (Keeps.refl _ _).alloc _)
              have H6V := Lib.hid (HxV.out.blk H6Z.out)
              have s5 := blk_cell H6V.out 5 rfl
              have t0 := blk_cell hb8 0 rfl
              have t1 := blk_cell hb8 1 rfl
              go_upto_region 11 with fail
              rw [← Hdy.out, ← hV, ← hg8]
              clear hV hg8 p2 p4 p5
              obtain ⟨o1, ho1⟩ : ∃ o, o = itsP s.2 (e.person, e.tick / 86400) := ⟨_, rfl⟩
              have hlen := Hlen.out
              rw [← ho1] at hlen
              obtain ⟨W1, st, v, fs, PE, hrow, hsub, hmv, hk1, hsz1, hstore⟩ := rows_entry (K := (idK dayT)) (R := strR) (t := 9) (Ob.ext (O := mapOb (idK dayT) (fun v : Value => v) (rowOb strR 9)) HoZ.out (HxV.out.trans ((Keeps.refl _ V).alloc (.cells #[.string e.item] 9)))) (e.person, dy) Tryz.underlying63 zero_strs
              have hrow' : RowAt strR 9 W1 v fs o1 := by rw [ho1, ← Hdy.out]; exact hrow
              obtain ⟨A0, c0, rfl⟩ := hrow'.form
              have PE' : (Instr.mapEntry 63 (.map (some mi)) (.agg #[.string e.person, .int .i64 dy])).run Tryz.prog (V.alloc (.cells #[.string e.item] 9)) = .ok (.tuple #[.slice A0 o1.length c0, .int .i64 (st : Int)]) W1 := PE
              have hblk : W1.heap[V.heap.size]? = some (.cells #[.string e.item] 9) := by
                refine hk1.blk (blk_new _ _) ?_
                have := (MapOf.lt (K := (idK dayT)) (O := (rowOb strR 9)) HoZ.out) mi (MapOf.root (K := (idK dayT)) HoZ.out)
                have := HxV.out.size
                omega
              have Hrow := Lib.hid hrow'
              have Hstore := Lib.hid hstore
              have Hsub := Lib.hid hsub
              have Hmv := Lib.hid hmv
              have Hk1 := Lib.hid hk1
              have Hblk := Lib.hid hblk
              have Ho1 := Lib.hid ho1
              clear PE hrow hrow' hstore hsub hmv hk1 hsz1 hblk ho1
              have HxZ := Lib.hid (show Ext w Z from Keeps.then_ HjY.out.ext HkZ.out (fun i hi _ e9 => by have := HjY.out.old.1; omega))
              have hVl : Z.heap.size ≤ V.heap.size := HxV.out.size
              go_wp2_with (at_builtin; refine wpList_append_Own (ok := fun g => g ∈ fs) (R := strR) _ rfl (.tmp 48) (.tmp 51) 34 rfl 9 i0 _ 16 0 Tryz.underlying34 hi0 hz0 hz1 hz2 rfl (by decide) rfl Hrow.out.own _ 1 1 [e.item] rfl (Srcs.one_new rfl Hblk.out rfl) (by omega) (by decide) (Nat.zero_le _) ?_; intro A5 c5 w5 hown5 hg5 hat5; obtain ⟨hrow5, ht5⟩ := RowAt.app Hrow.out (Keeps.refl _ _) (hown5.mono (ok' := fun g => g ∈ fs ++ []) (fun k _ h => by simpa using h)) hg5 hat5 (by simp) List.nodup_nil; obtain ⟨W6, f6, P6, hmo6, ht6, hk6⟩ := Hstore.out w5 _ _ _ hrow5 ht5; have P6' : (Instr.entryStore 63 (.map (some mi)) (.int .i64 (st : Int)) (.slice A5 (o1.length + 1) c5)).run Tryz.prog w5 = .ok () W6 := P6; have Hmo6 := Lib.hid hmo6; have Ht6 := Lib.hid ht6; clear hown5 hg5 hat5 hrow5 ht5 P6 hmo6 ht6 hk6)
              have hov := Ht6.out.over ((HxZ.out.trans HxV.out).alloc _) HjY.out.old.2
              have HE := Lib.hid (show JcAt w ms mi (casS (l.take (k + 1))) W6 f6 from
                ⟨by rw [Hcy.out]; exact ((HmZ.out.ext HxV.out).ext ((Keeps.refl _ _).alloc _)).keep Ht6.out.keeps HjY.out.apart, by rw [Hcy.out, ← Hdy.out]; have h9 := Hmo6.out; rw [Ho1.out, ← Hdy.out] at h9; exact h9, fun hm => by
                  rcases Ht6.out.grew ms hm with h9 | h9
                  · exact HjY.out.apart h9
                  · have h8 : V.heap.size + 1 ≤ ms := by simpa using h9
                    have := HszZ.out
                    omega, ⟨HjY.out.old.1, hov.2⟩, hov.1⟩)
              clear hov
              go_roundw
              case rel => exact ⟨k + 1, f6, by omega, by go_num, HE.out⟩
              case measure => simp [intOf]; omega
            · have Hcn := Lib.hid (show casS (l.take (k + 1)) = s by rw [Hsn.out]; exact cas_seen Hsb.out.symm)
              go_wp2_with fail
              go_roundw
              case rel => exact ⟨k + 1, f, by omega, by go_num, by rw [Hcn.out]; exact HjY.out⟩
              case measure => simp [intOf]; omega
        · have Hcn := Lib.hid (show casS (l.take (k + 1)) = s by rw [Hsn.out]; exact cas_no (by unfold tookE; simp; omega))
          have e2 : (e.kind != 2) = true := by simp; omega
          have e3 : (e.kind != 3) = true := by simp; omega
          clear hk2
          go_wp2_with fail
          go_roundw
          case rel => exact ⟨k + 1, f, by omega, by go_num, by rw [Hcn.out]; exact Hj.out.go HxX.out⟩
          case measure => simp [intOf]; omega
      · obtain rfl : k = n := by omega
        have h9 := Hj.out
        rw [List.take_of_length_le (Nat.le_of_eq Hl.out)] at h9
        have HE := Lib.hid h9
        clear h9
        go_wp2_with fail
        go_meet
        exact ⟨f, HE.out⟩
  case rest =>
    obtain ⟨f, hj⟩ := hcut
    obtain ⟨X, hX⟩ : ∃ X, X = wc := ⟨_, rfl⟩
    rw [← hX] at hj ⊢
    have Hj := Lib.hid hj
    clear hX hj
    obtain ⟨m, hm⟩ : ∃ m, m = (casS l).2 := ⟨_, rfl⟩
    have Hkeys := Lib.hid (show ∀ x ∈ m.map (·.1), 0 ≤ x.2 ∧ x.2 ≤ 12725829 by
      rw [hm]
      refine cas_keys (fun x => 0 ≤ x.2 ∧ x.2 ≤ 12725829) l ([], []) (fun x hx => by cases hx) (fun e he => ?_)
      have h9 := head_tick (Hmay.out e he)
      show 0 ≤ e.tick / 86400 ∧ e.tick / 86400 ≤ 12725829
      omega)
    have Hml := Lib.hid (show m.length ≤ 100000 by rw [hm]; have h9 := cas_len l ([], []); have := Hl.out; simp only [List.length_nil] at h9; show (l.foldl casStep ([], [])).2.length ≤ 100000; omega)
    have Hit := Lib.hid (show ∀ k, (itsP m k).length ≤ 100000 from fun k => by rw [hm]; have h9 := its_len (l := l) k; have := Hl.out; omega)
    have Hcases := Lib.hid (show ∀ ks, Ris dayLt ks → (∀ k, k ∈ ks ↔ k ∈ m.map (·.1)) → caseP m ks = casesR l from fun ks h1 h2 => by rw [hm] at h2 ⊢; exact cases_one (asc_tick Hasc.out) h1 h2)
    have hjX : MapOf (idK dayT) (fun v : Value => v) (rowOb strR 9) X mi f m := by rw [hm]; exact Hj.out.items
    have HmX := Lib.hid hjX
    have Hxw := Lib.hid Hj.out.ext
    clear hm
    obtain ⟨es, hMp, hL, _, _, _⟩ := hjX
    have Hks := Lib.hid (show m.map (·.1) = (es.map fun e => (e.1, e.2.1)).map (·.1) by rw [hL]; simp [List.map_map, Function.comp_def])
    have hel : (es.map fun e => (e.1, e.2.1)).length ≤ 1048576 := by have h9 := Hml.out; rw [hL] at h9; simp at h9 ⊢; omega
    have HK := Lib.hid ((callsIn_wide (n := 5)).1 (itd_keys Fence.wide 5 trivial rfl (some mi) X))
    have HSF := Lib.hid (itd_SortedFunc (fun v : Value => v) X.heap.size mi _ hel (X.alloc (.cells #[.map (some mi)] 63)) (by simp) (blk_cell (blk_new _ _) 0 rfl) (hMp.ext ((Keeps.refl _ _).alloc _)))
    clear hMp hL hel
    go_upto_region 14 with (first
      | (go_at_call 26; refine HK.out.mono ?_; rintro _ _ ⟨rfl, rfl⟩)
      | (go_at_call 25; refine HSF.out.mono ?_; rintro _ Y ⟨AK, nk, ck, ks, rfl, hsk, hris, hmem, hxY⟩))
    have HxY := Lib.hid (show Ext X Y from Keeps.trans ((Keeps.refl _ _).alloc _) hxY)
    have Hsk := Lib.hid (show Sl dayR (fun g => X.heap.size ≤ g) Y AK nk ks from hsk.mono (fun g _ h => by simp at h; omega))
    have Hmem := Lib.hid (show ∀ k, k ∈ ks ↔ k ∈ m.map (·.1) from fun k => by rw [Hks.out]; exact hmem k)
    have Hris := Lib.hid hris
    have hnk : nk ≤ 100000 := by
      have h1 := hsk.1
      have hnd : ks.Nodup := hris.imp fun {a b} h e => by rw [e, Swo.irr dayLt_swo] at h; cases h
      have h2 := nodup_sub_len ks (m.map (·.1)) hnd (fun d hd => (Hmem.out d).1 hd)
      have := Hml.out
      simp at h2
      omega
    have Hnk := Lib.hid hsk.1
    clear hxY hsk hmem hris
    obtain ⟨i1, hi1, hy0, hy1, hy2⟩ := info_of3 info_cas
    go_wp2_with fail
    go_loopw [10, 61] (fun s10 i wr => ∃ (k : Nat) (A : Option Addr) (cr : Nat), k ≤ nk ∧ i = .int .i64 k ∧ s10 = .slice A k cr ∧ Own casR 36 (fun g => Y.heap.size ≤ g) wr Y.heap.size (.slice A k cr) k (caseP m (ks.take k)) ∧ Ext Y wr) (fun _ i _ => nk - (intOf i).toNat)
    case atStart => exact ⟨0, none, 0, Nat.zero_le _, rfl, rfl, Own.nil_, Keeps.refl _ _⟩
    case round =>
      obtain ⟨k, A1, cr, hk, rfl, rfl, hown, hx⟩ := hrel
      have Hown := Lib.hid hown
      have Hx := Lib.hid hx
      clear hown hx
      by_cases hlt : k < nk
      · obtain ⟨bk, ok9, d, rfl, hbk, _, hd, d0, d1⟩ := (Hsk.out.ext Hx.out).day hlt
        have j0 : (0 : Int) ≤ (k : Int) := by omega
        have j1 : (k : Int) < (nk : Int) := by omega
        have hdk := Hkeys.out d ((Hmem.out d).1 (List.mem_of_getElem? hd))
        have Hcp := Lib.hid (show caseP m (ks.take (k + 1)) = caseP m (ks.take k) ++ [⟨d.1, d.2 * 86400, sortL ltB (itsP m d)⟩] by unfold caseP; rw [List.take_add_one, hd]; simp)
        obtain ⟨pn, dn⟩ := d
        have hdk1 : 0 ≤ dn := hdk.1
        have hdk2 : dn ≤ 12725829 := hdk.2
        have d0' : wr.cell? ⟨bk, ok9 + k * 2, none⟩ = some (.string pn) := d0
        have d1' : wr.cell? ⟨bk, ok9 + k * 2 + 1, none⟩ = some (.int .i64 dn) := d1
        clear hd hdk d0 d1
        obtain ⟨V, hV⟩ : ∃ V, V = wr.alloc (.cells #[.string pn, .int .i64 dn] 67) := ⟨_, rfl⟩
        obtain ⟨g12, hg12⟩ : ∃ g, g = wr.heap.size := ⟨_, rfl⟩
        have hb12 : V.heap[g12]? = some (.cells #[.string pn, .int .i64 dn] 67) := by rw [hV, hg12]; exact blk_new _ _
        have HxV := Lib.hid (show Ext wr V by rw [hV]; exact (Keeps.refl _ _).alloc _)
        have Hb12 := Lib.hid hb12
        have HwrV := Lib.hid (show wr.heap.size ≤ V.heap.size from HxV.out.size)
        have hYV : Y.heap.size ≤ V.heap.size := Nat.le_trans Hx.out.size HwrV.out
        have hmo : MapOf (idK dayT) (fun v : Value => v) (rowOb strR 9) V mi f m := Ob.ext (O := mapOb (idK dayT) (fun v : Value => v) (rowOb strR 9)) HmX.out (HxY.out.trans (Hx.out.trans HxV.out))
        obtain ⟨vv, fs, hrow, _, _, hlk, _⟩ := rows_focus (K := (idK dayT)) hmo (pn, dn)
        obtain ⟨zs, hzs⟩ : ∃ zs, zs = itsP m (pn, dn) := ⟨_, rfl⟩
        have hrow' : RowAt strR 9 V vv fs zs := by rw [hzs]; exact hrow
        have hzl : zs.length ≤ 100000 := by rw [hzs]; exact Hit.out _
        obtain ⟨si, hsi⟩ : ∃ si, si = sortL ltB zs := ⟨_, rfl⟩
        have hsl : si.length = zs.length := by rw [hsi]; exact (sortL_ok ltB_swo zs).2.perm.length_eq.symm
        have htx := texts_of_row hrow'
        obtain ⟨AV, cV, rfl⟩ := hrow'.form
        have L : (Instr.lookup 63 (.map (some mi)) (.agg #[.string pn, .int .i64 dn]) false).run Tryz.prog V.drew = .ok (.slice AV zs.length cV) V.drew := hlk Tryz.underlying63 (zero_strs _) ((Keeps.refl _ _).drew)
        have HV := Lib.hid ((callsIn_wide (n := 5)).1 (its_values Fence.wide 5 trivial rfl AV zs.length cV V.drew))
        have HSo := Lib.hid (show Calls Tryz.prog 31 #[.func (.func 57) #[] #[.pointer (some ⟨V.heap.size, 0, none⟩)]] (V.drew.alloc (.cells #[.slice AV zs.length cV] 34)) (fun e w' => ∃ (A : Option Addr) (c : Nat), e = .returned (.slice A si.length c) ∧ Own strR 9 (fun _ => True) w' (V.heap.size + 1) (.slice A si.length c) si.length si ∧ Ext (V.drew.alloc (.cells #[.slice AV zs.length cV] 34)) w') by
          have h9 := its_Sorted V.heap.size V.heap.size (.slice AV zs.length cV) zs (by omega) (V.drew.alloc (.cells #[.slice AV zs.length cV] 34)) (by simp) (by simp) (blk_cell (g := V.heap.size) (blk_new V.drew _) 0 rfl) (htx.below (((Below.refl _ V).trans (Ext.below (Keeps.refl _ V).drew)).trans (Ext.below ((Keeps.refl _ V.drew).alloc _))))
          refine h9.mono ?_
          rintro e w' ⟨A, c, rfl, h1, h2⟩
          rw [hsl, hsi]
          exact ⟨A, c, rfl, by simpa using h1, h2⟩)
        have Hsi := Lib.hid (show caseP m (ks.take (k + 1)) = caseP m (ks.take k) ++ [⟨pn, dn * 86400, si⟩] by rw [Hcp.out, hsi, hzs])
        have hw1 : IntKind.i64.wrap (dn * 86400) = dn * 86400 := IntWalk.i64_in _ (by omega)
        have hsil : si.length ≤ 100000 := by omega
        have Hg12 := Lib.hid (show wr.heap.size ≤ g12 by omega)
        have HS := Lib.hid (fun (w' : World) (hk : Keeps (fun g => g = g12) V w') => show w'.cell? ⟨g12, 0, none⟩ = some (.string pn) ∧ w'.cell? ⟨g12, 1, none⟩ = some (.int .i64 dn) from ⟨blk_cell (hk.blk Hb12.out rfl) 0 rfl, blk_cell (hk.blk Hb12.out rfl) 1 rfl⟩)
        have HAo := Lib.hid (show ∀ g, (Value.slice A1 k cr).ownBlock = some g → g < wr.heap.size from fun g hg => (Hown.out.lt g hg).2)
        clear hb12 hmo hrow hrow' hlk hzs hsi hsl htx
        go_upto_region 18 with fail
        rw [← hV, ← hg12]
        clear hV hg12 d0' d1'
        refine wp_region_held_drew (S := fun w' => w'.cell? ⟨g12, 0, none⟩ = some (.string pn) ∧ w'.cell? ⟨g12, 1, none⟩ = some (.int .i64 dn)) (by kernel_rfl) (by exact HS.out V.drew ((Keeps.refl _ _).drew)) (fun hHeld => ?_)
        change wpAnyH _ _ _ _ _ _ #[false, false, false, false, false, false, false, false, false, false, false, false, false, false, false] _ _
        refine wpAnyH_take (i := 0) (oi := { dst := some 65, op := Go.Op.move (Go.Operand.tmp 10), type := 25, pos := "judge.go:63", after := #[], guard := none }) (v := ?_) rfl (by kernel_rfl) (by kernel_rfl) (by kernel_rfl) (fun _ _ _ h => h) (Or.inl ⟨by rfl, ?_⟩) hHeld ?_
        rotate_left
        · intro w hSw
          (try dsimp only at hSw)
          go_simp
          all_goals (with_reducible rfl)
        try simp only [Act.put, List.setIfInBounds_toArray, List.set_cons_zero, List.set_cons_succ]
        refine wpAnyH_take (i := 1) (oi := { dst := some 66, op := Go.Op.fieldAddr 67 (Go.Operand.tmp 12) 0, type := 0, pos := "judge.go:63", after := #[], guard := none }) (v := ?_) rfl (by kernel_rfl) (by kernel_rfl) (by kernel_rfl) (fun _ _ _ h => h) (Or.inl ⟨by rfl, ?_⟩) hHeld ?_
        rotate_left
        · intro w hSw
          (try dsimp only at hSw)
          go_simp
          all_goals (with_reducible rfl)
        try simp only [Act.put, List.setIfInBounds_toArray, List.set_cons_zero, List.set_cons_succ]
        refine wpAnyH_take (i := 2) (oi := { dst := some 67, op := Go.Op.load 9 (Go.Operand.tmp 66), type := 9, pos := "judge.go:63", after := #[{ on := 1, ground := Go.Ground.data }], guard := none }) (v := ?_) rfl (by kernel_rfl) (by kernel_rfl) (by kernel_rfl) (fun _ _ _ h => h) (Or.inl ⟨by rfl, ?_⟩) hHeld ?_
        rotate_left
        · intro w hSw
          (try dsimp only at hSw)
          go_simp
          all_goals (with_reducible rfl)
        try simp only [Act.put, List.setIfInBounds_toArray, List.set_cons_zero, List.set_cons_succ]
        refine wpAnyH_take (i := 3) (oi := { dst := some 68, op := Go.Op.fieldAddr 67 (Go.Operand.tmp 12) 1, type := 0, pos := "judge.go:63", after := #[], guard := none }) (v := ?_) rfl (by kernel_rfl) (by kernel_rfl) (by kernel_rfl) (fun _ _ _ h => h) (Or.inl ⟨by rfl, ?_⟩) hHeld ?_
        rotate_left
        · intro w hSw
          (try dsimp only at hSw)
          go_simp
          all_goals (with_reducible rfl)
        try simp only [Act.put, List.setIfInBounds_toArray, List.set_cons_zero, List.set_cons_succ]
        refine wpAnyH_take (i := 4) (oi := { dst := some 69, op := Go.Op.load 3 (Go.Operand.tmp 68), type := 3, pos := "judge.go:63", after := #[{ on := 3, ground := Go.Ground.data }], guard := none }) (v := ?_) rfl (by kernel_rfl) (by kernel_rfl) (by kernel_rfl) (fun _ _ _ h => h) (Or.inl ⟨by rfl, ?_⟩) hHeld ?_
        rotate_left
        · intro w hSw
          (try dsimp only at hSw)
          go_simp
          all_goals (with_reducible rfl)
        try simp only [Act.put, List.setIfInBounds_toArray, List.set_cons_zero, List.set_cons_succ]
        refine wpAnyH_take (i := 5) (oi := { dst := some 70, op := Go.Op.binOp Go.BinOp.mul 3 (Go.Operand.tmp 69) (Go.Operand.const (Go.Value.int Go.IntKind.i64 86400)) 3, type := 3, pos := "judge.go:63", after := #[{ on := 4, ground := Go.Ground.data }], guard := none }) (v := ?_) rfl (by kernel_rfl) (by kernel_rfl) (by kernel_rfl) (fun _ _ _ h => h) (Or.inl ⟨by rfl, ?_⟩) hHeld ?_
        rotate_left
        · intro w hSw
          (try dsimp only at hSw)
          go_simp
          all_goals (with_reducible rfl)
        try simp only [Act.put, List.setIfInBounds_toArray, List.set_cons_zero, List.set_cons_succ]
        refine wpAnyH_take (i := 6) (oi := { dst := some 71, op := Go.Op.move (Go.Operand.tmp 4), type := 63, pos := "judge.go:63", after := #[], guard := none }) (v := ?_) rfl (by kernel_rfl) (by kernel_rfl) (by kernel_rfl) (fun _ _ _ h => h) (Or.inl ⟨by rfl, ?_⟩) hHeld ?_
        rotate_left
        · intro w hSw
          (try dsimp only at hSw)
          go_simp
          all_goals (with_reducible rfl)
        try simp only [Act.put, List.setIfInBounds_toArray, List.set_cons_zero, List.set_cons_succ]
        refine wpAnyH_take (i := 7) (oi := { dst := some 72, op := Go.Op.load 67 (Go.Operand.tmp 12), type := 67, pos := "judge.go:63", after := #[], guard := none }) (v := ?_) rfl (by kernel_rfl) (by kernel_rfl) (by kernel_rfl) (fun _ _ _ h => h) (Or.inl ⟨by rfl, ?_⟩) hHeld ?_
        rotate_left
        · intro w hSw
          (try dsimp only at hSw)
          go_simp
          all_goals (with_reducible rfl)
        try simp only [Act.put, List.setIfInBounds_toArray, List.set_cons_zero, List.set_cons_succ]
        refine wpAnyH_ready (rs := [8]) (by kernel_rfl) (by simp) ?_
        refine (AllReadyH.cons (o := { dst := some 73, op := Go.Op.lookup 63 (Go.Operand.tmp 71) (Go.Operand.tmp 72) false, type := 34, pos := "judge.go:63", after := #[{ on := 6, ground := Go.Ground.data }, { on := 7, ground := Go.Ground.data }], guard := none }) rfl (fun K hK => ?_) AllReadyH.nil)
        go_simp
        refine hK.out _ _ (by exact HS.out _ (by repeat (first | with_reducible exact Keeps.refl _ _ | with_reducible assumption | with_reducible refine Keeps.drew ?_ | with_reducible refine Keeps.alloc ?_ _))) (fun hHeld => ?_)
        clear hK K
        try simp only [List.setIfInBounds_toArray, List.set_cons_zero, List.set_cons_succ]
        refine wpAnyH_ready (rs := [9]) (by kernel_rfl) (by simp) ?_
        refine (AllReadyH.cons (o := { dst := some 74, op := Go.Op.call { callee := Go.Callee.value (Go.Operand.func 32), args := #[Go.Operand.tmp 73], argTypes := #[34] }, type := 79, pos := "judge.go:63", after := #[{ on := 8, ground := Go.Ground.data }], guard := none }) rfl (fun K hK => ?_) AllReadyH.nil)
        (go_simp; go_at_call 32; refine HV.out.mono ?_; rintro _ _ ⟨rfl, rfl⟩)
        refine hK.out _ _ (by exact HS.out _ (by repeat (first | with_reducible exact Keeps.refl _ _ | with_reducible assumption | with_reducible refine Keeps.drew ?_ | with_reducible refine Keeps.alloc ?_ _))) (fun hHeld => ?_)
        clear hK K
        try simp only [List.setIfInBounds_toArray, List.set_cons_zero, List.set_cons_succ]
        refine wpAnyH_ready (rs := [10]) (by kernel_rfl) (by simp) ?_
        refine (AllReadyH.cons (o := { dst := some 75, op := Go.Op.call { callee := Go.Callee.value (Go.Operand.func 31), args := #[Go.Operand.tmp 74], argTypes := #[79] }, type := 34, pos := "judge.go:63", after := #[{ on := 9, ground := Go.Ground.data }, { on := 9, ground := Go.Ground.chain }], guard := none }) rfl (fun K hK => ?_) AllReadyH.nil)
        (go_simp; go_at_call 31; refine HSo.out.mono ?_; rintro _ Z ⟨AS, cS, rfl, hownS, hxS⟩; have hxZ : Ext V Z := Keeps.trans (((Keeps.refl _ V).drew).alloc _) hxS; have hkZ : Keeps (fun g => g = g12) V Z := Ext.keeps hxZ _)
        refine hK.out _ _ (by exact HS.out _ (by repeat (first | with_reducible exact Keeps.refl _ _ | with_reducible assumption | with_reducible refine Keeps.drew ?_ | with_reducible refine Keeps.alloc ?_ _))) (fun hHeld => ?_)
        clear hK K
        try simp only [List.setIfInBounds_toArray, List.set_cons_zero, List.set_cons_succ]
        refine wpAnyH_take (i := 11) (oi := { dst := some 76, op := Go.Op.build 36 #[(0, Go.Operand.tmp 67), (1, Go.Operand.tmp 70), (2, Go.Operand.tmp 75)], type := 36, pos := "judge.go:63", after := #[{ on := 2, ground := Go.Ground.data }, { on := 5, ground := Go.Ground.data }, { on := 10, ground := Go.Ground.data }], guard := none }) (v := ?_) rfl (by kernel_rfl) (by kernel_rfl) (by kernel_rfl) (fun _ _ _ h => h) (Or.inl ⟨by rfl, ?_⟩) hHeld ?_
        rotate_left
        · intro w hSw
          (try dsimp only at hSw)
          go_simp
          all_goals (with_reducible rfl)
        try simp only [Act.put, List.setIfInBounds_toArray, List.set_cons_zero, List.set_cons_succ]
        refine wpAnyH_ready (rs := [12]) (by kernel_rfl) (by simp) ?_
        refine (AllReadyH.cons (o := { dst := some 77, op := Go.Op.buildSlice 25 1 #[(0, Go.Operand.tmp 76)], type := 25, pos := "judge.go:63", after := #[{ on := 11, ground := Go.Ground.data }], guard := none }) rfl (fun K hK => ?_) AllReadyH.nil)
        go_simp
        refine hK.out _ _ (by exact HS.out _ (by repeat (first | with_reducible exact Keeps.refl _ _ | with_reducible assumption | with_reducible refine Keeps.drew ?_ | with_reducible refine Keeps.alloc ?_ _))) (fun hHeld => ?_)
        clear hK K
        try simp only [List.setIfInBounds_toArray, List.set_cons_zero, List.set_cons_succ]
        refine wpAnyH_ready (rs := [13]) (by kernel_rfl) (by simp) ?_
        refine (AllReadyH.cons (o := { dst := some 78, op := Go.Op.call { callee := Go.Callee.builtin Go.Builtin.append, args := #[Go.Operand.tmp 65, Go.Operand.tmp 77], argTypes := #[25, 25] }, type := 25, pos := "judge.go:63", after := #[{ on := 0, ground := Go.Ground.data }, { on := 12, ground := Go.Ground.data }, { on := 10, ground := Go.Ground.chain }], guard := none }) rfl (fun K hK => ?_) AllReadyH.nil)
        refine step_append_Own (ok := fun g => Y.heap.size ≤ g) (R := casR) _ (by rfl) (.tmp 65) (.tmp 77) 25 (by rfl) 36 i1 _ 48 Y.heap.size Tryz.underlying25 hi1 hy0 hy1 hy2 rfl (by decide) (by rfl) (Hown.out.ext (Keeps.trans HxV.out (by repeat (first | with_reducible exact Keeps.refl _ _ | with_reducible assumption | with_reducible refine Keeps.drew ?_ | with_reducible refine Keeps.alloc ?_ _)))) _ 1 1 [⟨pn, dn * 86400, si⟩] (by rfl) (Srcs.one_new ⟨AS, cS, rfl, hownS.cap, ((Own.flat (ok' := fun _ => False) strR_flat hownS (fun _ _ => rfl)).sl (ok' := off (fun g => Y.heap.size ≤ g) (.slice A1 k cr)) (fun g hb9 _ _ => ⟨by omega, fun e9 => by have := HAo.out g e9; have := HwrV.out; omega⟩) (fun _ _ h => h.elim)).ext ((Keeps.refl _ _).alloc _)⟩ (blk_new _ _) rfl) (by omega) (by decide) (by have h9 := hxZ.size; simp; omega) ?_; intro A5 c5 w5 hown5 hg5 hat5; have hx5 : Keeps (fun g => g = g12) V w5 := Keeps.grown (by repeat (first | with_reducible exact Keeps.refl _ _ | with_reducible assumption | with_reducible refine Keeps.drew ?_ | with_reducible refine Keeps.alloc ?_ _)) hg5 (fun g hv hl e9 => by have := HAo.out g hv; have := Hg12.out; omega); have hxY5 : Ext Y w5 := Keeps.grown ((Hx.out.trans (HxV.out.trans hxZ)).alloc _) hg5 (fun g hv hl _ => by have := (Hown.out.lt g hv).1; omega)
        refine hK.out _ _ (by exact HS.out _ (by repeat (first | with_reducible exact Keeps.refl _ _ | with_reducible assumption | with_reducible refine Keeps.drew ?_ | with_reducible refine Keeps.alloc ?_ _))) (fun hHeld => ?_)
        clear hK K
        try simp only [Act.put, List.setIfInBounds_toArray, List.set_cons_zero, List.set_cons_succ]
        refine wpAnyH_ready (rs := [14]) (by kernel_rfl) (by simp) ?_
        refine (AllReadyH.cons (o := { dst := some 10, op := Go.Op.assign (Go.Operand.tmp 78), type := 25, pos := "judge.go:63", after := #[{ on := 13, ground := Go.Ground.data }, { on := 13, ground := Go.Ground.chain }, { on := 0, ground := Go.Ground.phase }, { on := 1, ground := Go.Ground.phase }, { on := 2, ground := Go.Ground.phase }, { on := 3, ground := Go.Ground.phase }, { on := 4, ground := Go.Ground.phase }, { on := 5, ground := Go.Ground.phase }, { on := 6, ground := Go.Ground.phase }, { on := 7, ground := Go.Ground.phase }, { on := 8, ground := Go.Ground.phase }, { on := 9, ground := Go.Ground.phase }, { on := 10, ground := Go.Ground.phase }, { on := 11, ground := Go.Ground.phase }, { on := 12, ground := Go.Ground.phase }, { on := 13, ground := Go.Ground.phase }], guard := none }) rfl (fun K hK => ?_) AllReadyH.nil)
        go_simp
        refine hK.out _ _ (by exact HS.out _ (by repeat (first | with_reducible exact Keeps.refl _ _ | with_reducible assumption | with_reducible refine Keeps.drew ?_ | with_reducible refine Keeps.alloc ?_ _))) (fun hHeld => ?_)
        clear hK K
        try simp only [List.setIfInBounds_toArray, List.set_cons_zero, List.set_cons_succ]
        refine wpAnyH_done (by kernel_rfl) ?_ _
        have HE := Lib.hid (show Own casR 36 (fun g => Y.heap.size ≤ g) w5 Y.heap.size (.slice A5 (k + 1) c5) (k + 1) (caseP m (ks.take (k + 1))) ∧ Ext Y w5 from ⟨by rw [Hsi.out]; exact hown5, hxY5⟩)
        clear hHeld hown5 hg5 hat5 hx5 hxY5 hownS hxS hxZ hkZ L
        go_wp2_with fail
        go_roundw
        case rel => exact ⟨k + 1, A5, c5, by omega, by go_num, rfl, HE.out.1, HE.out.2⟩
        case measure => simp [intOf]; omega
      · obtain rfl : k = nk := by omega
        have h9 := Hown.out
        rw [List.take_of_length_le (Nat.le_of_eq Hnk.out), Hcases.out ks Hris.out Hmem.out] at h9
        have HE := Lib.hid h9
        clear h9
        go_wp2_with fail
        go_ret
        exact ⟨A1, k, cr, rfl, HE.out.sl (fun g hb9 _ _ => Nat.le_trans (Nat.le_trans Hxw.out.size HxY.out.size) hb9) (fun g _ h => Nat.le_trans (Nat.le_trans Hxw.out.size HxY.out.size) h), Hxw.out.trans (HxY.out.trans Hx.out)⟩
end Go.Proofs.YtpkkkhgmkndpdaaGreatDoor
namespace Go.Proofs.YtpkkkhgmkndpdaaGreatDoor
open Go Go.RowKit Go.Proofs
attribute [local go_sem ↓] Go.wp_at_zero Go.wp_at_succ
def cfg1 : Cfg := ⟨1, 1, 0, 1, 0, 0⟩
theorem cfg1_ok : CfgOk cfg1 := by constructor <;> decide
theorem of_events (P : PrOb) (c : Cfg) (l : List Ev) : (wldOf P c l).events = anewE l := by
  have h := to_events (P := P) c (anewE l) (anewE l).length
  rw [List.take_of_length_le (Nat.le_refl _)] at h
  rw [← h]
  unfold wldOf wldTo
  rw [List.take_of_length_le (Nat.le_refl _)]
set_option maxRecDepth 100000 in
set_option maxHeartbeats 4000000 in
theorem ju_Cases (A : Option Addr) (n c : Nat) (l : List Ev) (ok : Nat → Prop) (w : World) (hs : Sl evR ok w A n l) (hn : n ≤ 100000) (hmay : ∀ e ∈ l, mayE e = true) (htn : ∀ e ∈ l, EvTn e) (hv : Vars w) :
    Calls Tryz.prog 6 #[.slice A n c] w fun r w' => ∃ (A' : Option Addr) (n' c' : Nat), r = .returned (.slice A' n' c') ∧ Sl casR (fun g => w.heap.size ≤ g) w' A' n' (casesR (anewE l)) ∧ Ext w w' := by
  have HO := Lib.hid (show Calls Tryz.prog 13 #[.agg #[.int .i64 1, .int .i64 1, .int .i64 0, .int .i64 1, .int .i64 0, .int .i64 0], .slice A n c] w (fun r w' => ∃ b fp, r = .returned (.tuple #[.pointer (some ⟨b, 0, none⟩), .int .i64 0]) ∧ WldAt noPr w' b fp (wldOf noPr cfg1 l) ∧ Ext w w' ∧ ∀ g ∈ fp, w.heap.size ≤ g) from wo_Of noPr cfg1 A n c l ok w cfg1_ok hs hn hmay htn hv)
  have hal : (anewE l).length ≤ 100000 := by have := anew_len' (once_len l); have := hs.1; omega
  have Hal := Lib.hid hal
  have Hmay := Lib.hid hmay
  clear hs hmay htn hv hal
  go_enter Tryz.func6, Tryz.ntmps6
  go_wp2_with (go_at_call 13; refine HO.out.mono ?_; rintro _ X ⟨b, fp, rfl, hat, hx, _⟩)
  have hev := wo_Events noPr b fp _ X hat (by rw [of_events]; exact Hal.out)
  rw [of_events] at hev
  obtain ⟨la, hla⟩ : ∃ la, la = anewE l := ⟨_, rfl⟩
  rw [← hla] at hev
  have HE := Lib.hid hev
  have hll : la.length ≤ 100000 := by rw [hla]; exact Hal.out
  have Hlm := Lib.hid (show (∀ e ∈ la, mayE e = true) ∧ Asc la by rw [hla]; exact ⟨anew_may Hmay.out, anew_asc Hmay.out⟩)
  have Hla := Lib.hid hla
  have Hx := Lib.hid hx
  clear hev hla hat hx
  go_wp2_with (go_at_call 15; refine HE.out.mono ?_; rintro _ Y ⟨A1, c1, rfl, hown, hxY⟩; have HC := Lib.hid (ju_cases A1 la.length c1 la _ Y hown.evSl hll Hlm.out.1 Hlm.out.2); have HxY := Lib.hid hxY; clear hown hxY)
  refine HC.out.mono ?_
  rintro _ Z ⟨A2, n2, c2, rfl, hsl, hxZ⟩
  have Hsl := Lib.hid hsl
  have HxZ := Lib.hid hxZ
  clear hsl hxZ
  go_wp2_with fail
  go_ret
  exact ⟨A2, n2, c2, rfl, by rw [← Hla.out]; exact Hsl.out.mono (fun g _ h => Nat.le_trans (Hx.out.trans HxY.out).size h), Hx.out.trans (HxY.out.trans HxZ.out)⟩
set_option maxRecDepth 100000 in
set_option maxHeartbeats 4000000 in
theorem ju_Cases_no (A : Option Addr) (n c : Nat) (l : List Ev) (ok : Nat → Prop) (w : World) (hs : Sl evR ok w A n l) (hn : n ≤ 100000) (hno : l.all mayE = false) (htn : ∀ e ∈ l, EvTn e) (hv : Mx w) :
    Calls Tryz.prog 6 #[.slice A n c] w fun r w' => r = .returned (.slice none 0 0) ∧ Ext w w' := by
  have HO := Lib.hid (show Calls Tryz.prog 13 #[.agg #[.int .i64 1, .int .i64 1, .int .i64 0, .int .i64 1, .int .i64 0, .int .i64 0], .slice A n c] w (fun r w' => r = .returned (.tuple #[.pointer none, .int .i64 1]) ∧ Ext w w') from wo_Of_no cfg1 A n c l ok w cfg1_ok hs hn hno htn hv)
  clear hs hno htn hv
  go_enter Tryz.func6, Tryz.ntmps6
  go_wp2_with (go_at_call 13; refine HO.out.mono ?_; rintro _ X ⟨rfl, hx⟩; have Hx := Lib.hid hx; clear hx)
  go_ret
  exact ⟨rfl, Hx.out⟩
end Go.Proofs.YtpkkkhgmkndpdaaGreatDoor
