/-
  What is proved here: events of which of each identity one counts, in order: such a list is known by whom it holds. No program is in sight. No condition but those told.
-/
import Derived.Test.YtpkkkhgmkndpdaaGreatDoorSoR
import Derived.Test.YtpkkkhgmkndpdaaGreatDoorEvFmt
namespace Go.Proofs.YtpkkkhgmkndpdaaGreatDoor
open Go Go.RowKit
theorem sameE_iff {a b : Ev} : sameE a b = true ↔ a.src = b.src ∧ a.num = b.num := by
  unfold sameE; rw [Bool.and_eq_true, beqB_iff, decide_eq_true_eq]
theorem sameE_self (a : Ev) : sameE a a = true := sameE_iff.2 ⟨rfl, rfl⟩
theorem sameE_comm (a b : Ev) : sameE a b = sameE b a := by
  rw [Bool.eq_iff_iff, sameE_iff, sameE_iff]
  exact ⟨fun h => ⟨h.1.symm, h.2.symm⟩, fun h => ⟨h.1.symm, h.2.symm⟩⟩
theorem sameE_trans {a b c : Ev} (h1 : sameE a b = true) (h2 : sameE b c = true) : sameE a c = true := by
  rw [sameE_iff] at *
  exact ⟨h1.1.trans h2.1, h1.2.trans h2.2⟩
/-- Of two events of one identity, is it the one that counts? -/
def betterE (a b : Ev) : Bool := if lessE a b || lessE b a then lessE a b else ltB (fmtE a) (fmtE b)
def putOnce (out : List Ev) (e : Ev) : List Ev := if out.any (fun x => sameE x e) then out.map (fun x => if sameE x e then (if betterE e x then e else x) else x) else out ++ [e]
def onceL (l : List Ev) : List Ev := l.foldl putOnce []
def joinE (l : List Ev) : List Ev := sortL lessE (onceL l)
theorem ltB_irr (a : ByteArray) : ltB a a = false := by
  rcases cmpS_cases a a with ⟨_, _, h, _⟩ | ⟨_, h, _⟩ | ⟨_, h, _⟩ <;> exact h
theorem betterE_asym {a b : Ev} (h : betterE a b = true) : betterE b a = false := by
  unfold betterE at *
  cases h1 : lessE a b <;> cases h2 : lessE b a <;> rw [h1, h2] at h <;> simp at h ⊢
  · rcases cmpS_cases (fmtE a) (fmtE b) with ⟨_, _, h3, _⟩ | ⟨_, _, h3, _⟩ | ⟨_, h3, _, _⟩
    · exact h3
    · exact h3
    · rw [h] at h3; cases h3
  · have := lessE_swo.asym h1; rw [h2] at this; cases this
theorem betterE_iff {a b : Ev} : betterE a b = true ↔ lessE a b = true ∨ (lessE a b = false ∧ lessE b a = false ∧ ltB (fmtE a) (fmtE b) = true) := by
  unfold betterE
  cases h1 : lessE a b <;> cases h2 : lessE b a <;> simp
theorem betterE_trans {a b c : Ev} (h1 : betterE a b = true) (h2 : betterE b c = true) : betterE a c = true := by
  rw [betterE_iff] at *
  rcases h1 with h1 | ⟨h1, h1', h1''⟩ <;> rcases h2 with h2 | ⟨h2, h2', h2''⟩
  · exact .inl (lessE_trans h1 h2)
  · exact .inl (Swo.lt_le lessE_swo h1 h2')
  · exact .inl (Swo.le_lt lessE_swo h1' h2)
  · exact .inr ⟨lessE_swo.ntrans h1 h2, lessE_swo.ntrans h2' h1', ltB_trans h1'' h2''⟩
theorem betterE_tot {a b : Ev} (ha : mayE a = true) (hb : mayE b = true) : a = b ∨ betterE a b = true ∨ betterE b a = true := by
  rw [betterE_iff, betterE_iff]
  cases h1 : lessE a b
  · cases h2 : lessE b a
    · rcases cmpS_cases (fmtE a) (fmtE b) with ⟨_, h3, _⟩ | ⟨_, _, _, h3⟩ | ⟨_, _, h3, _⟩
      · exact .inr (.inl (.inr ⟨rfl, rfl, h3⟩))
      · exact .inl (fmt_inj ha hb h3)
      · exact .inr (.inr (.inr ⟨rfl, rfl, h3⟩))
    · exact .inr (.inr (.inl rfl))
  · exact .inr (.inl (.inl rfl))
/-- The one that counts of its identity, in a list. -/
def Least (l : List Ev) (e : Ev) : Prop := e ∈ l ∧ ∀ x ∈ l, sameE x e = true → x = e ∨ betterE e x = true
def Ids (l : List Ev) : Prop := l.Pairwise (fun a b => sameE a b = false)
structure OnceOk (pre out : List Ev) : Prop where
  ids : Ids out
  sound : ∀ e ∈ out, Least pre e
  cover : ∀ x ∈ pre, ∃ e ∈ out, sameE e x = true
theorem OnceOk.iff {pre out : List Ev} (h : OnceOk pre out) (e : Ev) : e ∈ out ↔ Least pre e := by
  refine ⟨h.sound e, fun hl => ?_⟩
  obtain ⟨z, hz, hze⟩ := h.cover e hl.1
  have hlz := h.sound z hz
  rcases hl.2 z hlz.1 hze with rfl | h1
  · exact hz
  · rcases hlz.2 e hl.1 (by rw [sameE_comm]; exact hze) with rfl | h2
    · exact hz
    · have := betterE_asym h1; rw [h2] at this; cases this
theorem ids_one {l : List Ev} (h : Ids l) {a b : Ev} (ha : a ∈ l) (hb : b ∈ l) (hs : sameE a b = true) : a = b := by
  induction l with
  | nil => cases ha
  | cons x l ih =>
    obtain ⟨h1, h2⟩ := List.pairwise_cons.1 h
    rcases List.mem_cons.1 ha with e1 | e1 <;> rcases List.mem_cons.1 hb with e2 | e2
    · rw [e1, e2]
    · have := h1 b e2; rw [← e1, hs] at this; cases this
    · have := h1 a e1; rw [← e2, sameE_comm, hs] at this; cases this
    · exact ih h2 e1 e2
theorem once_step {pre out : List Ev} (h : OnceOk pre out) {x : Ev} (hp : ∀ e ∈ pre, mayE e = true) (hx : mayE x = true) : OnceOk (pre ++ [x]) (putOnce out x) := by
  unfold putOnce
  cases hany : out.any (fun y => sameE y x)
  · have hno : ∀ y ∈ out, sameE y x = false := fun y hy => by
      have := List.any_eq_false.1 hany y hy
      simpa using this
    simp only [Bool.false_eq_true, if_false]
    refine ⟨?_, ?_, ?_⟩
    · exact List.pairwise_append.2 ⟨h.ids, List.pairwise_singleton _ _, fun a ha b hb => by rw [List.mem_singleton.1 hb]; exact hno a ha⟩
    · intro e he
      rcases List.mem_append.1 he with he | he
      · have hl := h.sound e he
        refine ⟨List.mem_append.2 (.inl hl.1), fun y hy hs => ?_⟩
        rcases List.mem_append.1 hy with hy | hy
        · exact hl.2 y hy hs
        · rw [List.mem_singleton.1 hy] at hs
          have := hno e he; rw [sameE_comm, hs] at this; cases this
      · rw [List.mem_singleton.1 he]
        refine ⟨by simp, fun y hy hs => ?_⟩
        rcases List.mem_append.1 hy with hy | hy
        · obtain ⟨z, hz, hzy⟩ := h.cover y hy
          have := hno z hz
          rw [sameE_trans hzy hs] at this; cases this
        · simp at hy; exact .inl hy
    · intro y hy
      rcases List.mem_append.1 hy with hy | hy
      · obtain ⟨z, hz, hzy⟩ := h.cover y hy
        exact ⟨z, List.mem_append.2 (.inl hz), hzy⟩
      · rw [List.mem_singleton.1 hy]
        exact ⟨x, by simp, sameE_self x⟩
  · simp only [if_true]
    have hsm : ∀ z, sameE (if sameE z x then (if betterE x z then x else z) else z) z = true := fun z => by
      cases h1 : sameE z x
      · simp [sameE_self]
      · simp only [if_true]
        split
        · rw [sameE_comm]; exact h1
        · exact sameE_self z
    refine ⟨?_, ?_, ?_⟩
    · refine List.pairwise_map.2 (h.ids.imp fun {a b} hab => ?_)
      cases hc : sameE (if sameE a x then (if betterE x a then x else a) else a) (if sameE b x then (if betterE x b then x else b) else b)
      · rfl
      · have h1 := sameE_trans (sameE_trans (by rw [sameE_comm]; exact hsm a) hc) (hsm b)
        rw [hab] at h1; cases h1
    · intro e he
      obtain ⟨z, hz, rfl⟩ := List.mem_map.1 he
      have hl := h.sound z hz
      have hmz := hp z hl.1
      cases h1 : sameE z x
      · simp only [Bool.false_eq_true, if_false]
        refine ⟨List.mem_append.2 (.inl hl.1), fun y hy hs => ?_⟩
        rcases List.mem_append.1 hy with hy | hy
        · exact hl.2 y hy hs
        · rw [List.mem_singleton.1 hy] at hs
          rw [sameE_comm, hs] at h1; cases h1
      · simp only [if_true]
        cases h2 : betterE x z
        · simp only [Bool.false_eq_true, if_false]
          refine ⟨List.mem_append.2 (.inl hl.1), fun y hy hs => ?_⟩
          rcases List.mem_append.1 hy with hy | hy
          · exact hl.2 y hy hs
          · rw [List.mem_singleton.1 hy]
            rcases betterE_tot hx hmz with h3 | h3 | h3
            · exact .inl h3
            · rw [h3] at h2; cases h2
            · exact .inr h3
        · simp only [if_true]
          refine ⟨by simp, fun y hy hs => ?_⟩
          rcases List.mem_append.1 hy with hy | hy
          · have hyz : sameE y z = true := sameE_trans hs (by rw [sameE_comm]; exact h1)
            rcases hl.2 y hy hyz with rfl | h3
            · exact .inr h2
            · exact .inr (betterE_trans h2 h3)
          · simp at hy; exact .inl hy
    · intro y hy
      rcases List.mem_append.1 hy with hy | hy
      · obtain ⟨z, hz, hzy⟩ := h.cover y hy
        exact ⟨_, List.mem_map.2 ⟨z, hz, rfl⟩, sameE_trans (hsm z) hzy⟩
      · rw [List.mem_singleton.1 hy]
        obtain ⟨z, hz, hzy⟩ := List.any_eq_true.1 hany
        exact ⟨_, List.mem_map.2 ⟨z, hz, rfl⟩, sameE_trans (hsm z) hzy⟩
theorem once_ok {l : List Ev} (h : ∀ e ∈ l, mayE e = true) : OnceOk l (onceL l) := by
  suffices ∀ (l pre out : List Ev), OnceOk pre out → (∀ e ∈ pre, mayE e = true) → (∀ e ∈ l, mayE e = true) → OnceOk (pre ++ l) (l.foldl putOnce out) by
    have := this l [] [] ⟨List.Pairwise.nil, fun _ h => (by cases h), fun _ h => (by cases h)⟩ (fun _ h => by cases h) h
    simpa [onceL] using this
  intro l
  induction l with
  | nil => intro pre out ho _ _; simpa using ho
  | cons x l ih =>
    intro pre out ho hp hl
    have hx := hl x (by simp)
    have := ih (pre ++ [x]) (putOnce out x) (once_step ho hp hx) (fun e he => by
      rcases List.mem_append.1 he with he | he
      · exact hp e he
      · rw [List.mem_singleton.1 he]; exact hx) (fun e he => hl e (by simp [he]))
    simpa using this
/-- In order, each ahead of the next. -/
def Asc (l : List Ev) : Prop := l.Pairwise (fun a b => lessE a b = true)
theorem asc_ext : ∀ {l m : List Ev}, Asc l → Asc m → (∀ e, e ∈ l ↔ e ∈ m) → l = m
  | [], [], _, _, _ => rfl
  | [], y :: m, _, _, h => by have := (h y).2 (by simp); cases this
  | x :: l, [], _, _, h => by have := (h x).1 (by simp); cases this
  | x :: l, y :: m, hl, hm, h => by
    obtain ⟨l1, l2⟩ := List.pairwise_cons.1 hl
    obtain ⟨m1, m2⟩ := List.pairwise_cons.1 hm
    have irr := Swo.irr lessE_swo
    have hxy : x = y := by
      rcases List.mem_cons.1 ((h x).1 (by simp)) with e | e
      · exact e
      · rcases List.mem_cons.1 ((h y).2 (by simp)) with e' | e'
        · exact e'.symm
        · have h1 := m1 x e
          have h2 := lessE_swo.asym (l1 y e')
          rw [h1] at h2; cases h2
    subst hxy
    rw [asc_ext l2 m2 fun e => ?_]
    constructor
    · intro he
      rcases List.mem_cons.1 ((h e).1 (by simp [he])) with rfl | h1
      · have := l1 e he; rw [irr] at this; cases this
      · exact h1
    · intro he
      rcases List.mem_cons.1 ((h e).2 (by simp [he])) with rfl | h1
      · have := m1 e he; rw [irr] at this; cases this
      · exact h1
theorem ids_perm {l m : List Ev} (h : Ids l) (hp : l.Perm m) : Ids m := by
  refine (hp.pairwise_iff ?_).1 h
  intro a b hab; rw [sameE_comm]; exact hab
theorem srt_asc {l : List Ev} (hs : Srt lessE l) (hi : Ids l) : Asc l := by
  refine (hs.and hi).imp fun {a b} ⟨h1, h2⟩ => ?_
  rcases cmpE_cases a b with ⟨_, _, h, _⟩ | ⟨_, _, _, _, _, h5, h6⟩ | ⟨_, _, _, h⟩
  · exact h
  · rw [sameE_iff.2 ⟨h5, h6⟩] at h2; cases h2
  · rw [h1] at h; cases h
theorem sort_asc {l : List Ev} (hi : Ids l) : Asc (sortL lessE l) := by
  obtain ⟨h1, h2⟩ := sortL_ok lessE_swo l
  exact srt_asc h1 (ids_perm hi h2.perm)
theorem sort_mem {l : List Ev} {e : Ev} : e ∈ sortL lessE l ↔ e ∈ l := (sortL_ok lessE_swo l).2.mem
theorem join_asc {l : List Ev} (h : ∀ e ∈ l, mayE e = true) : Asc (joinE l) := sort_asc (once_ok h).ids
theorem join_ids {l : List Ev} (h : ∀ e ∈ l, mayE e = true) : Ids (joinE l) := ids_perm (once_ok h).ids (sortL_ok lessE_swo _).2.perm
theorem join_mem {l : List Ev} (h : ∀ e ∈ l, mayE e = true) {e : Ev} : e ∈ joinE l ↔ Least l e := sort_mem.trans ((once_ok h).iff e)
theorem join_may {l : List Ev} (h : ∀ e ∈ l, mayE e = true) : ∀ e ∈ joinE l, mayE e = true := fun e he => h e ((join_mem h).1 he).1
theorem join_eq {l m : List Ev} (hl : ∀ e ∈ l, mayE e = true) (hm : ∀ e ∈ m, mayE e = true) (h : ∀ e, e ∈ l ↔ e ∈ m) : joinE l = joinE m := by
  refine asc_ext (join_asc hl) (join_asc hm) fun e => ?_
  rw [join_mem hl, join_mem hm]
  unfold Least
  simp only [h]
/-- What the map's events come to, in whatever order. -/
theorem sort_perm {l m : List Ev} (hi : Ids l) (hp : l.Perm m) : sortL lessE m = sortL lessE l :=
  asc_ext (sort_asc (ids_perm hi hp)) (sort_asc hi) fun e => by rw [sort_mem, sort_mem]; exact hp.mem_iff.symm
theorem join_self {m : List Ev} (ha : Asc m) (hi : Ids m) (hm : ∀ e ∈ m, mayE e = true) : joinE m = m := by
  refine asc_ext (join_asc hm) ha fun e => ?_
  rw [join_mem hm]
  exact ⟨fun h => h.1, fun h => ⟨h, fun x hx hs => .inl (ids_one hi hx h hs)⟩⟩
def Alike (l : List Ev) : Prop := ∀ a ∈ l, ∀ b ∈ l, sameE a b = true → a = b
theorem join_alike {l : List Ev} (h : ∀ e ∈ l, mayE e = true) (ha : Alike l) {e : Ev} : e ∈ joinE l ↔ e ∈ l := by
  rw [join_mem h]
  exact ⟨fun h => h.1, fun h => ⟨h, fun x hx hs => .inl (ha x hx e h hs)⟩⟩
def allE (l : List Ev) : List Ev := joinE (l.filter mayE)
theorem filter_may (l : List Ev) : ∀ e ∈ l.filter mayE, mayE e = true := fun _ he => (List.mem_filter.1 he).2
theorem filter_all {l : List Ev} (h : ∀ e ∈ l, mayE e = true) : l.filter mayE = l := List.filter_eq_self.2 h
theorem allE_may {l : List Ev} (h : ∀ e ∈ l, mayE e = true) : allE l = joinE l := by unfold allE; rw [filter_all h]
theorem allE_asc (l : List Ev) : Asc (allE l) := join_asc (filter_may l)
theorem allE_ids (l : List Ev) : Ids (allE l) := join_ids (filter_may l)
theorem allE_ok (l : List Ev) : ∀ e ∈ allE l, mayE e = true := join_may (filter_may l)
theorem allE_eq {l m : List Ev} (h : ∀ e, e ∈ l ↔ e ∈ m) : allE l = allE m := join_eq (filter_may l) (filter_may m) fun e => by simp only [List.mem_filter, h]
theorem allE_self (l : List Ev) : allE (allE l) = allE l := by
  rw [allE_may (allE_ok l)]
  exact join_self (allE_asc l) (allE_ids l) (allE_ok l)
theorem allE_mem {l : List Ev} (ha : Alike l) {e : Ev} : e ∈ allE l ↔ e ∈ l ∧ mayE e = true := by
  unfold allE
  rw [join_alike (filter_may l) (fun a h1 b h2 => ha a (List.mem_filter.1 h1).1 b (List.mem_filter.1 h2).1), List.mem_filter]
/-- Joined lists of alike events, joined. -/
theorem allE_two {a b : List Ev} (h : Alike (a ++ b)) : allE (allE a ++ allE b) = allE (a ++ b) := by
  have ha : Alike a := fun x hx y hy => h x (by simp [hx]) y (by simp [hy])
  have hb : Alike b := fun x hx y hy => h x (by simp [hx]) y (by simp [hy])
  have hm : ∀ e, e ∈ allE a ++ allE b ↔ e ∈ a ++ b ∧ mayE e = true := fun e => by
    rw [List.mem_append, List.mem_append, allE_mem ha, allE_mem hb]
    constructor
    · rintro (⟨h1, h2⟩ | ⟨h1, h2⟩)
      · exact ⟨.inl h1, h2⟩
      · exact ⟨.inr h1, h2⟩
    · rintro ⟨h1 | h1, h2⟩
      · exact .inl ⟨h1, h2⟩
      · exact .inr ⟨h1, h2⟩
  have hal : Alike (allE a ++ allE b) := fun x hx y hy => h x ((hm x).1 hx).1 y ((hm y).1 hy).1
  refine asc_ext (allE_asc _) (allE_asc _) fun e => ?_
  rw [allE_mem hal, allE_mem h, hm]
  exact ⟨fun h => h.1, fun h => ⟨h, h.2⟩⟩
end Go.Proofs.YtpkkkhgmkndpdaaGreatDoor
