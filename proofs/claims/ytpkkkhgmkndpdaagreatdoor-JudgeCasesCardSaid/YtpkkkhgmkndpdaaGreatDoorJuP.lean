/-
  What is proved here: what is counted anew; the cases of events, as the program and as the document make them out; such lists are known by what they hold. Of the program only the types of two keys are in sight. No condition but those told.
-/
import Derived.Test.YtpkkkhgmkndpdaaGreatDoorExP
import Derived.Test.YtpkkkhgmkndpdaaGreatDoorMaps
import Derived.Test.YtpkkkhgmkndpdaaGreatDoorOb
namespace Go.Proofs.YtpkkkhgmkndpdaaGreatDoor
open Go Go.RowKit
def deedF0 : Field := { name := "person", type := 9, offset := 0, embedded := false, tag := "", pkgPath := "cicerone/judge", byteOffset := 0 }
def deedF1 : Field := { name := "item", type := 9, offset := 1, embedded := false, tag := "", pkgPath := "cicerone/judge", byteOffset := 16 }
theorem deedT : TwT Tryz.prog 65 deedF0 deedF1 := ⟨Tryz.underlying65, by decide, by decide, Tryz.underlying9, Tryz.underlying9, rfl, rfl, by kernel_rfl⟩
def dayF0 : Field := { name := "person", type := 9, offset := 0, embedded := false, tag := "", pkgPath := "cicerone/judge", byteOffset := 0 }
def dayF1 : Field := { name := "number", type := 3, offset := 1, embedded := false, tag := "", pkgPath := "cicerone/judge", byteOffset := 16 }
theorem dayT : IdT Tryz.prog 67 dayF0 dayF1 := ⟨Tryz.underlying67, by decide, by decide, Tryz.underlying9, Tryz.underlying3, rfl, rfl, by kernel_rfl⟩

/-! ### orders -/
theorem ltB_swo : Swo ltB where
  asym := fun {a b} h => by
    rcases cmpS_cases a b with ⟨_, _, h4, _⟩ | ⟨_, h3, _, _⟩ | ⟨_, h3, _, _⟩
    · exact h4
    · rw [h] at h3; cases h3
    · rw [h] at h3; cases h3
  ntrans := fun {a b c} h1 h2 => by
    cases h : ltB a c with
    | false => rfl
    | true =>
      rcases cmpS_cases a b with ⟨_, h3, _, _⟩ | ⟨_, _, _, rfl⟩ | ⟨_, _, h3, _⟩
      · rw [h1] at h3; cases h3
      · rw [h2] at h; cases h
      · have := ltB_trans h3 h; rw [h2] at this; cases this
theorem ltB_tot {a b : ByteArray} (h : a ≠ b) (h1 : ltB a b = false) : ltB b a = true := by
  rcases cmpS_cases a b with ⟨_, h3, _, _⟩ | ⟨_, _, _, h3⟩ | ⟨_, _, h3, _⟩
  · rw [h1] at h3; cases h3
  · exact absurd h3 h
  · exact h3
def Ris {α : Type} (lt : α → α → Bool) (l : List α) : Prop := l.Pairwise (fun a b => lt a b = true)
/-- A list that rises is known by what it holds. -/
theorem ris_ext {α : Type} {lt : α → α → Bool} (hw : Swo lt) : ∀ {l m : List α}, Ris lt l → Ris lt m → (∀ e, e ∈ l ↔ e ∈ m) → l = m
  | [], [], _, _, _ => rfl
  | [], y :: m, _, _, h => by have := (h y).2 (by simp); cases this
  | x :: l, [], _, _, h => by have := (h x).1 (by simp); cases this
  | x :: l, y :: m, hl, hm, h => by
    obtain ⟨l1, l2⟩ := List.pairwise_cons.1 hl
    obtain ⟨m1, m2⟩ := List.pairwise_cons.1 hm
    have irr := Swo.irr hw
    have hxy : x = y := by
      rcases List.mem_cons.1 ((h x).1 (by simp)) with e | e
      · exact e
      · rcases List.mem_cons.1 ((h y).2 (by simp)) with e' | e'
        · exact e'.symm
        · have h1 := m1 x e
          have h2 := hw.asym (l1 y e')
          rw [h1] at h2; cases h2
    subst hxy
    rw [ris_ext hw l2 m2 fun e => ?_]
    constructor
    · intro he
      rcases List.mem_cons.1 ((h e).1 (by simp [he])) with rfl | h1
      · have := l1 e he; rw [irr] at this; cases this
      · exact h1
    · intro he
      rcases List.mem_cons.1 ((h e).2 (by simp [he])) with rfl | h1
      · have := m1 e he; rw [irr] at this; cases this
      · exact h1
theorem ris_srt {α : Type} {lt : α → α → Bool} (hw : Swo lt) {l : List α} (h : Ris lt l) : Srt lt l := h.imp fun h => hw.asym h
/-- Texts, each once, in order. -/
theorem srt_ris {l : List ByteArray} (hs : Srt ltB l) (hn : l.Nodup) : Ris ltB l :=
  (hs.and hn).imp fun {a b} ⟨h1, h2⟩ => by
    cases h : ltB a b with
    | true => rfl
    | false => have := ltB_tot h2 h; rw [h1] at this; cases this
theorem sort_ris {l : List ByteArray} (hn : l.Nodup) : Ris ltB (sortL ltB l) := by
  obtain ⟨h1, h2⟩ := sortL_ok ltB_swo l
  exact srt_ris h1 (h2.perm.nodup_iff.1 hn)
theorem sortB_mem {l : List ByteArray} {x : ByteArray} : x ∈ sortL ltB l ↔ x ∈ l := (sortL_ok ltB_swo l).2.mem

/-! ### anew -/
def leftE (l : List Ev) (e : Ev) : Bool := decide (e.kind = 14) || !l.any (fun g => decide (g.kind = 14) && (g.person == e.person))
def leftL (l : List Ev) : List Ev := l.filter (leftE l)
def anewE (l : List Ev) : List Ev := sortL lessE (leftL (onceL l))
theorem leftE_iff {l : List Ev} {e : Ev} : leftE l e = true ↔ e.kind = 14 ∨ ∀ g ∈ l, g.kind = 14 → g.person ≠ e.person := by
  unfold leftE
  rw [Bool.or_eq_true, decide_eq_true_eq]
  constructor
  · rintro (h | h)
    · exact .inl h
    · refine .inr fun g hg hk hp => ?_
      have h9 : l.any (fun g => decide (g.kind = 14) && (g.person == e.person)) = true := List.any_eq_true.2 ⟨g, hg, by rw [hk, hp, beqB_self]; rfl⟩
      rw [h9] at h; cases h
  · rintro (h | h)
    · exact .inl h
    · refine .inr ?_
      rw [Bool.not_eq_true', List.any_eq_false]
      intro g hg hk
      rw [Bool.and_eq_true, decide_eq_true_eq, beqB_iff] at hk
      exact h g hg hk.1 hk.2
theorem leftE_perm {l m : List Ev} (h : ∀ e, e ∈ l ↔ e ∈ m) (e : Ev) : leftE l e = leftE m e := by
  rw [Bool.eq_iff_iff, leftE_iff, leftE_iff]
  simp only [h]
theorem anew_ids {l : List Ev} (h : ∀ e ∈ l, mayE e = true) : Ids (leftL (onceL l)) := List.Pairwise.filter _ (once_ok h).ids
theorem anew_asc {l : List Ev} (h : ∀ e ∈ l, mayE e = true) : Asc (anewE l) := sort_asc (anew_ids h)
theorem anew_mem {l : List Ev} (h : ∀ e ∈ l, mayE e = true) {e : Ev} : e ∈ anewE l ↔ Least l e ∧ (e.kind = 14 ∨ ∀ g, Least l g → g.kind = 14 → g.person ≠ e.person) := by
  unfold anewE leftL
  rw [sort_mem, List.mem_filter, (once_ok h).iff, leftE_iff]
  simp only [(once_ok h).iff]
theorem anew_may {l : List Ev} (h : ∀ e ∈ l, mayE e = true) : ∀ e ∈ anewE l, mayE e = true := fun e he => h e ((anew_mem h).1 he).1.1
theorem anew_eq {l m : List Ev} (hl : ∀ e ∈ l, mayE e = true) (hm : ∀ e ∈ m, mayE e = true) (h : ∀ e, e ∈ l ↔ e ∈ m) : anewE l = anewE m := by
  refine asc_ext (anew_asc hl) (anew_asc hm) fun e => ?_
  rw [anew_mem hl, anew_mem hm]
  unfold Least
  simp only [h]
/-- In whatever order those that count are gone through. -/
theorem anew_perm {l es : List Ev} (h : ∀ e ∈ l, mayE e = true) (hp : (onceL l).Perm es) : sortL lessE (es.filter (leftE (onceL l))) = anewE l :=
  sort_perm (anew_ids h) (hp.filter _)
theorem anew_len' {l : List Ev} (h : (onceL l).length ≤ l.length) : (anewE l).length ≤ l.length := by
  have h1 := (sortL_ok lessE_swo (leftL (onceL l))).2.len
  unfold anewE
  rw [h1]
  exact Nat.le_trans (List.length_filter_le _ _) h
theorem asc_tick {l : List Ev} (h : Asc l) : l.Pairwise (fun a b => a.tick ≤ b.tick) := h.imp fun {a b} h => by
  unfold lessE at h
  split at h
  · simp at h; omega
  · omega

/-! ### the first of their deeds -/
def tookE (e : Ev) : Bool := decide (e.kind = 2) || decide (e.kind = 3)
def dayE (e : Ev) : Int := e.tick / 86400
theorem day_le {a b : Ev} (h : a.tick ≤ b.tick) : dayE a ≤ dayE b := Int.ediv_le_ediv (by decide) h
def FirstD (l : List Ev) (p : ByteArray) (d : Int) (x : ByteArray) : Prop :=
  (∃ e ∈ l, tookE e = true ∧ e.person = p ∧ e.item = x ∧ dayE e = d) ∧ ∀ e ∈ l, tookE e = true → e.person = p → e.item = x → d ≤ dayE e
theorem mem_snoc {α : Type} {l : List α} {a e : α} : a ∈ l ++ [e] ↔ a ∈ l ∨ a = e := by simp
section
variable {pre : List Ev} {e : Ev} {p x : ByteArray} {d : Int}
theorem first_not (h : ¬ (tookE e = true ∧ e.person = p ∧ e.item = x)) : FirstD (pre ++ [e]) p d x ↔ FirstD pre p d x := by
  constructor
  · rintro ⟨⟨a, ha, h1, h2, h3, h4⟩, hm⟩
    refine ⟨?_, fun b hb => hm b (mem_snoc.2 (.inl hb))⟩
    rcases mem_snoc.1 ha with ha | rfl
    · exact ⟨a, ha, h1, h2, h3, h4⟩
    · exact absurd ⟨h1, h2, h3⟩ h
  · rintro ⟨⟨a, ha, h1⟩, hm⟩
    refine ⟨⟨a, mem_snoc.2 (.inl ha), h1⟩, fun b hb k1 k2 k3 => ?_⟩
    rcases mem_snoc.1 hb with hb | rfl
    · exact hm b hb k1 k2 k3
    · exact absurd ⟨k1, k2, k3⟩ h
theorem first_old (hs : ∀ a ∈ pre, a.tick ≤ e.tick) (h : ∃ a ∈ pre, tookE a = true ∧ a.person = e.person ∧ a.item = e.item) : FirstD (pre ++ [e]) p d x ↔ FirstD pre p d x := by
  obtain ⟨a0, ha0, t0, p0, i0⟩ := h
  constructor
  · rintro ⟨⟨a, ha, h1, h2, h3, h4⟩, hm⟩
    refine ⟨?_, fun b hb => hm b (mem_snoc.2 (.inl hb))⟩
    rcases mem_snoc.1 ha with ha | rfl
    · exact ⟨a, ha, h1, h2, h3, h4⟩
    · have k1 := hm a0 (mem_snoc.2 (.inl ha0)) t0 (p0.trans h2) (i0.trans h3)
      have k2 := day_le (hs a0 ha0)
      exact ⟨a0, ha0, t0, p0.trans h2, i0.trans h3, by omega⟩
  · rintro ⟨⟨a, ha, h1, h2, h3, h4⟩, hm⟩
    refine ⟨⟨a, mem_snoc.2 (.inl ha), h1, h2, h3, h4⟩, fun b hb k1 k2 k3 => ?_⟩
    rcases mem_snoc.1 hb with hb | rfl
    · exact hm b hb k1 k2 k3
    · have := day_le (hs a ha); omega
theorem first_new (ht : tookE e = true) (h : ∀ a ∈ pre, tookE a = true → a.person = e.person → a.item ≠ e.item) : FirstD (pre ++ [e]) p d x ↔ FirstD pre p d x ∨ (p = e.person ∧ x = e.item ∧ d = dayE e) := by
  by_cases hc : e.person = p ∧ e.item = x
  · obtain ⟨rfl, rfl⟩ := hc
    constructor
    · rintro ⟨⟨a, ha, h1, h2, h3, h4⟩, hm⟩
      rcases mem_snoc.1 ha with ha | rfl
      · exact absurd h3 (h a ha h1 h2)
      · exact .inr ⟨rfl, rfl, h4.symm⟩
    · rintro (⟨⟨a, ha, h1, h2, h3, h4⟩, hm⟩ | ⟨_, _, rfl⟩)
      · exact absurd h3 (h a ha h1 h2)
      · refine ⟨⟨e, mem_snoc.2 (.inr rfl), ht, rfl, rfl, rfl⟩, fun b hb k1 k2 k3 => ?_⟩
        rcases mem_snoc.1 hb with hb | rfl
        · exact absurd k3 (h b hb k1 k2)
        · exact Int.le_refl _
  · rw [first_not (fun h => hc h.2)]
    exact ⟨.inl, fun h => h.elim id fun k => absurd ⟨k.1.symm, k.2.1.symm⟩ hc⟩
end

/-! ### lists of cases -/
structure Cas where
  person : ByteArray
  tick : Int
  items : List ByteArray
def casLt (a b : Cas) : Bool := decide (a.tick < b.tick) || (decide (a.tick = b.tick) && ltB a.person b.person)
def dayLt (a b : Idt) : Bool := decide (a.2 < b.2) || (decide (a.2 = b.2) && ltB a.1 b.1)
theorem dayLt_iff {a b : Idt} : dayLt a b = true ↔ a.2 < b.2 ∨ (a.2 = b.2 ∧ ltB a.1 b.1 = true) := by unfold dayLt; simp
theorem casLt_iff {a b : Cas} : casLt a b = true ↔ a.tick < b.tick ∨ (a.tick = b.tick ∧ ltB a.person b.person = true) := by unfold casLt; simp
theorem dayLt_swo : Swo dayLt where
  asym := fun {a b} h => by
    rw [dayLt_iff] at h
    rw [Bool.eq_false_iff]; intro k; rw [dayLt_iff] at k
    rcases h with h | ⟨h, h'⟩ <;> rcases k with k | ⟨k, k'⟩ <;> try omega
    have := ltB_swo.asym h'; rw [k'] at this; cases this
  ntrans := fun {a b c} h1 h2 => by
    rw [Bool.eq_false_iff] at *
    intro k
    rw [Ne, dayLt_iff] at h1 h2
    rw [dayLt_iff] at k
    rcases k with k | ⟨k, k'⟩
    · by_cases h3 : a.2 < b.2
      · exact h1 (.inl h3)
      · exact h2 (.inl (by omega))
    · by_cases h3 : a.2 < b.2
      · exact h1 (.inl h3)
      · by_cases h4 : b.2 < c.2
        · exact h2 (.inl h4)
        · have e1 : ltB a.1 b.1 = false := by rw [Bool.eq_false_iff]; intro h; exact h1 (.inr ⟨by omega, h⟩)
          have e2 : ltB b.1 c.1 = false := by rw [Bool.eq_false_iff]; intro h; exact h2 (.inr ⟨by omega, h⟩)
          have := ltB_swo.ntrans e1 e2; rw [k'] at this; cases this
theorem casLt_day (a b : Cas) : casLt a b = dayLt (a.person, a.tick) (b.person, b.tick) := rfl
theorem casLt_swo : Swo casLt where
  asym := fun {a b} h => by rw [casLt_day] at *; exact dayLt_swo.asym h
  ntrans := fun {a b c} h1 h2 => by rw [casLt_day] at *; exact dayLt_swo.ntrans h1 h2
/-- These are the cases of events. -/
structure CasOk (l : List Ev) (r : List Cas) : Prop where
  ris : Ris casLt r
  sound : ∀ c ∈ r, ∃ d, c.tick = d * 86400 ∧ c.items ≠ [] ∧ Ris ltB c.items ∧ ∀ x, x ∈ c.items ↔ FirstD l c.person d x
  cover : ∀ p d x, FirstD l p d x → ∃ c ∈ r, c.person = p ∧ c.tick = d * 86400
theorem CasOk.sub {l : List Ev} {r s : List Cas} (h : CasOk l r) (k : CasOk l s) (c : Cas) (hc : c ∈ r) : c ∈ s := by
  obtain ⟨d, h1, h2, h3, h4⟩ := h.sound c hc
  obtain ⟨x, hx⟩ := List.exists_mem_of_ne_nil _ h2
  obtain ⟨c', hc', hp, ht⟩ := k.cover c.person d x ((h4 x).1 hx)
  obtain ⟨d', k1, k2, k3, k4⟩ := k.sound c' hc'
  obtain rfl : d' = d := by omega
  have : c = c' := by
    cases c; cases c'
    simp only [Cas.mk.injEq] at *
    refine ⟨hp.symm, by rw [h1, ht], ris_ext ltB_swo h3 k3 fun x => ?_⟩
    rw [h4 x, k4 x, hp]
  rw [this]; exact hc'
theorem CasOk.one {l : List Ev} {r s : List Cas} (h : CasOk l r) (k : CasOk l s) : r = s := ris_ext casLt_swo h.ris k.ris fun c => ⟨h.sub k c, k.sub h c⟩

/-! ### the program's -/
def seenP (s : List (Twt × Bool)) (t : Twt) : Bool := (getM (fun a b : Twt => a.1 == b.1 && a.2 == b.2) s t).getD false
def itsP (s : List (Idt × List ByteArray)) (k : Idt) : List ByteArray := (getM (fun a b : Idt => a.1 == b.1 && a.2 == b.2) s k).getD []
def casStep (s : List (Twt × Bool) × List (Idt × List ByteArray)) (e : Ev) : List (Twt × Bool) × List (Idt × List ByteArray) :=
  if tookE e && !seenP s.1 (e.person, e.item) then (putM (fun a b : Twt => a.1 == b.1 && a.2 == b.2) s.1 (e.person, e.item) true, putM (fun a b : Idt => a.1 == b.1 && a.2 == b.2) s.2 (e.person, dayE e) (itsP s.2 (e.person, dayE e) ++ [e.item])) else s
def casS (l : List Ev) : List (Twt × Bool) × List (Idt × List ByteArray) := l.foldl casStep ([], [])
theorem seenP_self (s : List (Twt × Bool)) (t : Twt) : seenP (putM (fun a b : Twt => a.1 == b.1 && a.2 == b.2) s t true) t = true := by unfold seenP; rw [show getM (fun a b : Twt => a.1 == b.1 && a.2 == b.2) (putM (fun a b : Twt => a.1 == b.1 && a.2 == b.2) s t true) t = some true from getM_putM_self (twK deedT) s t true]; rfl
theorem seenP_ne (s : List (Twt × Bool)) {t u : Twt} (h : u ≠ t) : seenP (putM (fun a b : Twt => a.1 == b.1 && a.2 == b.2) s t true) u = seenP s u := by unfold seenP; rw [show getM (fun a b : Twt => a.1 == b.1 && a.2 == b.2) (putM (fun a b : Twt => a.1 == b.1 && a.2 == b.2) s t true) u = getM (fun a b : Twt => a.1 == b.1 && a.2 == b.2) s u from getM_putM_ne (twK deedT) s true h]
theorem itsP_self (s : List (Idt × List ByteArray)) (k : Idt) (v : List ByteArray) : itsP (putM (fun a b : Idt => a.1 == b.1 && a.2 == b.2) s k v) k = v := by unfold itsP; rw [show getM (fun a b : Idt => a.1 == b.1 && a.2 == b.2) (putM (fun a b : Idt => a.1 == b.1 && a.2 == b.2) s k v) k = some v from getM_putM_self (idK dayT) s k v]; rfl
theorem itsP_ne (s : List (Idt × List ByteArray)) {k u : Idt} (v : List ByteArray) (h : u ≠ k) : itsP (putM (fun a b : Idt => a.1 == b.1 && a.2 == b.2) s k v) u = itsP s u := by unfold itsP; rw [show getM (fun a b : Idt => a.1 == b.1 && a.2 == b.2) (putM (fun a b : Idt => a.1 == b.1 && a.2 == b.2) s k v) u = getM (fun a b : Idt => a.1 == b.1 && a.2 == b.2) s u from getM_putM_ne (idK dayT) s v h]
structure CasI (pre : List Ev) (s : List (Twt × Bool) × List (Idt × List ByteArray)) : Prop where
  seen : ∀ t : Twt, seenP s.1 t = true ↔ ∃ a ∈ pre, tookE a = true ∧ a.person = t.1 ∧ a.item = t.2
  nd : ∀ k, (itsP s.2 k).Nodup
  mem : ∀ (k : Idt) (x : ByteArray), x ∈ itsP s.2 k ↔ FirstD pre k.1 k.2 x
  ne : ∀ k, getM (fun a b : Idt => a.1 == b.1 && a.2 == b.2) s.2 k ≠ none → itsP s.2 k ≠ []
theorem cas_step {pre : List Ev} {s : List (Twt × Bool) × List (Idt × List ByteArray)} {e : Ev} (h : CasI pre s) (hs : ∀ a ∈ pre, a.tick ≤ e.tick) : CasI (pre ++ [e]) (casStep s e) := by
  unfold casStep
  cases ht : tookE e
  · rw [Bool.false_and, if_neg (by decide)]
    have hn : ∀ p x, ¬ (tookE e = true ∧ e.person = p ∧ e.item = x) := fun _ _ h => by rw [ht] at h; cases h.1
    refine ⟨fun t => (h.seen t).trans ⟨?_, ?_⟩, h.nd, fun k x => by rw [first_not (hn _ _)]; exact h.mem k x, h.ne⟩
    · rintro ⟨a, ha, h1⟩; exact ⟨a, mem_snoc.2 (.inl ha), h1⟩
    · rintro ⟨a, ha, h1, h2⟩
      rcases mem_snoc.1 ha with ha | rfl
      · exact ⟨a, ha, h1, h2⟩
      · rw [ht] at h1; cases h1
  · cases hsn : seenP s.1 (e.person, e.item)
    · rw [if_pos (by rfl)]
      have hno : ∀ a ∈ pre, tookE a = true → a.person = e.person → a.item ≠ e.item := fun a ha h1 h2 h3 => by
        have := (h.seen (e.person, e.item)).2 ⟨a, ha, h1, h2, h3⟩
        rw [hsn] at this; cases this
      refine ⟨fun t => ?_, fun k => ?_, fun k x => ?_, fun k hk => ?_⟩
      · by_cases hte : t = (e.person, e.item)
        · subst hte
          exact ⟨fun _ => ⟨e, mem_snoc.2 (.inr rfl), ht, rfl, rfl⟩, fun _ => seenP_self _ _⟩
        · show seenP (putM (fun a b : Twt => a.1 == b.1 && a.2 == b.2) s.1 (e.person, e.item) true) t = true ↔ _
          rw [seenP_ne _ hte, h.seen t]
          constructor
          · rintro ⟨a, ha, h1⟩; exact ⟨a, mem_snoc.2 (.inl ha), h1⟩
          · rintro ⟨a, ha, h1, h2, h3⟩
            rcases mem_snoc.1 ha with ha | rfl
            · exact ⟨a, ha, h1, h2, h3⟩
            · exact absurd (Prod.ext h2.symm h3.symm) hte
      · by_cases hke : k = (e.person, dayE e)
        · subst hke
          show (itsP (putM (fun a b : Idt => a.1 == b.1 && a.2 == b.2) s.2 _ _) _).Nodup
          rw [itsP_self, List.nodup_append]
          refine ⟨h.nd _, by simp, fun x hx y hy hxy => ?_⟩
          subst hxy
          rw [List.mem_singleton.1 hy] at hx
          obtain ⟨⟨a, ha, h1, h2, h3, _⟩, _⟩ := (h.mem _ _).1 hx
          exact hno a ha h1 h2 h3
        · show (itsP (putM (fun a b : Idt => a.1 == b.1 && a.2 == b.2) s.2 _ _) _).Nodup
          rw [itsP_ne _ _ hke]; exact h.nd k
      · rw [first_new ht hno]
        by_cases hke : k = (e.person, dayE e)
        · subst hke
          show x ∈ itsP (putM (fun a b : Idt => a.1 == b.1 && a.2 == b.2) s.2 _ _) _ ↔ _
          rw [itsP_self, List.mem_append, h.mem, List.mem_singleton]
          exact or_congr Iff.rfl ⟨fun h => ⟨rfl, h, rfl⟩, fun h => h.2.1⟩
        · show x ∈ itsP (putM (fun a b : Idt => a.1 == b.1 && a.2 == b.2) s.2 _ _) _ ↔ _
          rw [itsP_ne _ _ hke, h.mem]
          exact ⟨.inl, fun h => h.elim id fun q => absurd (Prod.ext q.1 q.2.2) hke⟩
      · by_cases hke : k = (e.person, dayE e)
        · subst hke
          show itsP (putM (fun a b : Idt => a.1 == b.1 && a.2 == b.2) s.2 _ _) _ ≠ []
          rw [itsP_self]; simp
        · show itsP (putM (fun a b : Idt => a.1 == b.1 && a.2 == b.2) s.2 _ _) _ ≠ []
          rw [itsP_ne _ _ hke]
          refine h.ne k fun h0 => hk ?_
          show getM (fun a b : Idt => a.1 == b.1 && a.2 == b.2) (putM (fun a b : Idt => a.1 == b.1 && a.2 == b.2) s.2 _ _) k = none
          rw [show getM (fun a b : Idt => a.1 == b.1 && a.2 == b.2) (putM (fun a b : Idt => a.1 == b.1 && a.2 == b.2) s.2 (e.person, dayE e) (itsP s.2 (e.person, dayE e) ++ [e.item])) k = getM (fun a b : Idt => a.1 == b.1 && a.2 == b.2) s.2 k from getM_putM_ne (idK dayT) s.2 _ hke]; exact h0
    · rw [if_neg (by decide)]
      have ho := (h.seen (e.person, e.item)).1 hsn
      refine ⟨fun t => (h.seen t).trans ⟨?_, ?_⟩, h.nd, fun k x => by rw [first_old hs ho]; exact h.mem k x, h.ne⟩
      · rintro ⟨a, ha, h1⟩; exact ⟨a, mem_snoc.2 (.inl ha), h1⟩
      · rintro ⟨a, ha, h1, h2, h3⟩
        rcases mem_snoc.1 ha with ha | rfl
        · exact ⟨a, ha, h1, h2, h3⟩
        · obtain ⟨a0, q0, q1, q2, q3⟩ := ho
          exact ⟨a0, q0, q1, q2.trans h2, q3.trans h3⟩
theorem fold_inv {α β : Type} (I : List α → β → Prop) (f : β → α → β) {R : α → α → Prop} : ∀ (l pre : List α) (s : β), I pre s → (pre ++ l).Pairwise R → (∀ pre s e, I pre s → (∀ a ∈ pre, R a e) → I (pre ++ [e]) (f s e)) → I (pre ++ l) (l.foldl f s)
  | [], pre, s, h, _, _ => by simpa using h
  | e :: l, pre, s, h, hp, hf => by
    have h1 := fold_inv I f l (pre ++ [e]) (f s e) (hf pre s e h fun a ha => (List.pairwise_append.1 hp).2.2 a ha e (by simp)) (by simpa using hp) hf
    simpa using h1
theorem cas_ok {l : List Ev} (h : l.Pairwise (fun a b => a.tick ≤ b.tick)) : CasI l (casS l) := by
  have := fold_inv (R := fun a b : Ev => a.tick ≤ b.tick) CasI casStep l [] ([], []) ⟨fun t => by simp [seenP, getM], fun k => by simp [itsP, getM], fun k x => by simp [itsP, getM, FirstD], fun k h => absurd rfl h⟩ (by simpa using h) (fun _ _ _ h hs => cas_step h hs)
  simpa [casS] using this
theorem cas_snoc {l : List Ev} {k : Nat} {e : Ev} (h : l[k]? = some e) : casS (l.take (k + 1)) = casStep (casS (l.take k)) e := by
  unfold casS
  rw [List.take_add_one, h]; simp
theorem getM_mem_keys {m : List (Idt × List ByteArray)} {k : Idt} : k ∈ m.map (·.1) ↔ getM (fun a b : Idt => a.1 == b.1 && a.2 == b.2) m k ≠ none := by
  unfold getM
  rw [Ne, Option.map_eq_none_iff, List.find?_eq_none]
  constructor
  · intro h hn
    obtain ⟨q, hq, rfl⟩ := List.mem_map.1 h
    exact hn q hq (by simp [beqB_self])
  · intro h
    refine Classical.byContradiction fun hk => h fun q hq he => hk ?_
    have : k = q.1 := ((idK dayT).eq_iff k q.1).1 he
    rw [this]; exact List.mem_map_of_mem hq
def caseP (m : List (Idt × List ByteArray)) (ks : List Idt) : List Cas := ks.map fun k => ⟨k.1, k.2 * 86400, sortL ltB (itsP m k)⟩
theorem caseP_ok {l : List Ev} (h : l.Pairwise (fun a b => a.tick ≤ b.tick)) {ks : List Idt} (hr : Ris dayLt ks) (hm : ∀ k, k ∈ ks ↔ k ∈ (casS l).2.map (·.1)) : CasOk l (caseP (casS l).2 ks) := by
  have hi := cas_ok h
  refine ⟨?_, ?_, ?_⟩
  · refine List.pairwise_map.2 (hr.imp fun {a b} hab => ?_)
    rw [casLt_iff]
    rcases dayLt_iff.1 hab with h1 | ⟨h1, h2⟩
    · exact .inl (by show a.2 * 86400 < b.2 * 86400; omega)
    · exact .inr ⟨by show a.2 * 86400 = b.2 * 86400; omega, h2⟩
  · intro c hc
    obtain ⟨k, hk, rfl⟩ := List.mem_map.1 hc
    have hk2 := getM_mem_keys.1 ((hm k).1 hk)
    refine ⟨k.2, rfl, fun h0 => hi.ne k hk2 ?_, sort_ris (hi.nd k), fun x => ?_⟩
    · have h1 := (sortL_ok ltB_swo (itsP (casS l).2 k)).2.len
      have h0' : sortL ltB (itsP (casS l).2 k) = [] := h0
      rw [h0'] at h1
      exact List.length_eq_zero_iff.1 h1.symm
    · exact sortB_mem.trans (hi.mem k x)
  · intro p d x hf
    refine ⟨⟨p, d * 86400, sortL ltB (itsP (casS l).2 (p, d))⟩, List.mem_map.2 ⟨(p, d), (hm _).2 (getM_mem_keys.2 fun h0 => ?_), rfl⟩, rfl, rfl⟩
    have h1 := (hi.mem (p, d) x).2 hf
    unfold itsP at h1
    rw [h0] at h1; cases h1

/-! ### the document's -/
def inT (l : List ByteArray) (s : ByteArray) : Bool := l.any (fun y => y == s)
def putT (l : List ByteArray) (s : ByteArray) : List ByteArray := if inT l s then l else l.takeWhile (fun y => ltB y s) ++ s :: l.dropWhile (fun y => ltB y s)
theorem inT_iff {l : List ByteArray} {s : ByteArray} : inT l s = true ↔ s ∈ l := by
  unfold inT
  rw [List.any_eq_true]
  constructor
  · rintro ⟨y, hy, he⟩; rw [← beqB_iff.1 he]; exact hy
  · intro h; exact ⟨s, h, beqB_self s⟩
theorem putT_mem {l : List ByteArray} {s x : ByteArray} : x ∈ putT l s ↔ x ∈ l ∨ x = s := by
  unfold putT
  split
  · rename_i h
    have h := inT_iff.1 h
    exact ⟨.inl, fun k => k.elim id fun k => k ▸ h⟩
  · have e : l.takeWhile (fun y => ltB y s) ++ l.dropWhile (fun y => ltB y s) = l := List.takeWhile_append_dropWhile
    rw [List.mem_append, List.mem_cons]
    constructor
    · rintro (h | h | h)
      · exact .inl (by rw [← e]; exact List.mem_append.2 (.inl h))
      · exact .inr h
      · exact .inl (by rw [← e]; exact List.mem_append.2 (.inr h))
    · rintro (h | h)
      · rw [← e] at h
        rcases List.mem_append.1 h with h | h
        · exact .inl h
        · exact .inr (.inr h)
      · exact .inr (.inl h)
theorem putT_ris {l : List ByteArray} {s : ByteArray} (h : Ris ltB l) : Ris ltB (putT l s) := by
  unfold putT
  split
  · exact h
  · rename_i hn
    have hn : s ∉ l := fun k => hn (inT_iff.2 k)
    have e : l.takeWhile (fun y => ltB y s) ++ l.dropWhile (fun y => ltB y s) = l := List.takeWhile_append_dropWhile
    have h' := h
    unfold Ris at h'
    rw [← e, List.pairwise_append] at h'
    have hd : ∀ y ∈ l.dropWhile (fun y => ltB y s), ltB s y = true := fun y hy => by
      have hyl : y ∈ l := by rw [← e]; exact List.mem_append.2 (.inr hy)
      cases hdw : l.dropWhile (fun y => ltB y s) with
      | nil => rw [hdw] at hy; cases hy
      | cons z r =>
        have hz : ltB z s = false := drop_head (p := fun y => ltB y s) l z (by rw [hdw]; rfl)
        have hzl : z ∈ l := by rw [← e, hdw]; simp
        have hsz : ltB s z = true := ltB_tot (fun k => hn (k ▸ hzl)) hz
        rw [hdw] at hy
        rcases List.mem_cons.1 hy with rfl | hy
        · exact hsz
        · have h2 := h'.2.1
          rw [hdw] at h2
          exact ltB_trans hsz ((List.pairwise_cons.1 h2).1 y hy)
    refine List.pairwise_append.2 ⟨h'.1, List.pairwise_cons.2 ⟨hd, h'.2.1⟩, fun y hy z hz => ?_⟩
    rcases List.mem_cons.1 hz with rfl | hz
    · exact take_mem (p := fun y => ltB y z) l y hy
    · exact h'.2.2 y hy z hz
def hadStep (p : ByteArray) (d : Int) (s : List ByteArray × List ByteArray) (e : Ev) : List ByteArray × List ByteArray :=
  if tookE e && (e.person == p) then (if dayE e < d then putT s.1 e.item else s.1, if dayE e = d ∧ inT s.1 e.item = false then putT s.2 e.item else s.2) else s
def hadS (l : List Ev) (p : ByteArray) (d : Int) : List ByteArray × List ByteArray := l.foldl (hadStep p d) ([], [])
def itemsR (l : List Ev) (p : ByteArray) (d : Int) : List ByteArray := (hadS l p d).2
theorem had_snoc {l : List Ev} {k : Nat} {e : Ev} {p : ByteArray} {d : Int} (h : l[k]? = some e) : hadS (l.take (k + 1)) p d = hadStep p d (hadS (l.take k) p d) e := by
  unfold hadS
  rw [List.take_add_one, h]; simp
structure HadI (p : ByteArray) (d : Int) (pre : List Ev) (s : List ByteArray × List ByteArray) : Prop where
  hris : Ris ltB s.1
  hmem : ∀ x, x ∈ s.1 ↔ ∃ a ∈ pre, tookE a = true ∧ a.person = p ∧ a.item = x ∧ dayE a < d
  oris : Ris ltB s.2
  omem : ∀ x, x ∈ s.2 ↔ FirstD pre p d x
theorem had_step {p : ByteArray} {d : Int} {pre : List Ev} {s : List ByteArray × List ByteArray} {e : Ev} (h : HadI p d pre s) (hs : ∀ a ∈ pre, a.tick ≤ e.tick) : HadI p d (pre ++ [e]) (hadStep p d s e) := by
  unfold hadStep
  by_cases hc : tookE e = true ∧ e.person = p
  · obtain ⟨ht, hp⟩ := hc
    have hif : (tookE e && (e.person == p)) = true := by rw [ht, hp, beqB_self]; rfl
    rw [if_pos hif]
    have hwide : ∀ x, (∃ a ∈ pre, tookE a = true ∧ a.person = p ∧ a.item = x ∧ dayE a < d) → ∃ a ∈ pre ++ [e], tookE a = true ∧ a.person = p ∧ a.item = x ∧ dayE a < d := fun x ⟨a, ha, k⟩ => ⟨a, mem_snoc.2 (.inl ha), k⟩
    by_cases h1 : dayE e < d
    · rw [if_pos h1, if_neg (fun k => by omega)]
      refine ⟨putT_ris h.hris, fun x => ?_, h.oris, fun x => (h.omem x).trans ?_⟩
      · rw [putT_mem, h.hmem]
        constructor
        · rintro (k | rfl)
          · exact hwide x k
          · exact ⟨e, mem_snoc.2 (.inr rfl), ht, hp, rfl, h1⟩
        · rintro ⟨a, ha, k1, k2, k3, k4⟩
          rcases mem_snoc.1 ha with ha | rfl
          · exact .inl ⟨a, ha, k1, k2, k3, k4⟩
          · exact .inr k3.symm
      · constructor
        · rintro ⟨⟨a, ha, k1, k2, k3, k4⟩, _⟩
          have := day_le (hs a ha); omega
        · rintro ⟨⟨a, ha, k1, k2, k3, k4⟩, km⟩
          rcases mem_snoc.1 ha with ha | rfl
          · exact ⟨⟨a, ha, k1, k2, k3, k4⟩, fun b hb => km b (mem_snoc.2 (.inl hb))⟩
          · omega
    · rw [if_neg h1]
      have hmem' : ∀ x, x ∈ s.1 ↔ ∃ a ∈ pre ++ [e], tookE a = true ∧ a.person = p ∧ a.item = x ∧ dayE a < d := fun x => by
        rw [h.hmem]
        refine ⟨hwide x, ?_⟩
        rintro ⟨a, ha, k1, k2, k3, k4⟩
        rcases mem_snoc.1 ha with ha | rfl
        · exact ⟨a, ha, k1, k2, k3, k4⟩
        · exact absurd k4 h1
      by_cases h2 : dayE e = d ∧ inT s.1 e.item = false
      · rw [if_pos h2]
        obtain ⟨h2, h3⟩ := h2
        have hno : ∀ a ∈ pre, tookE a = true → a.person = p → a.item = e.item → ¬ dayE a < d := fun a ha k1 k2 k3 k4 => by
          have := inT_iff.2 ((h.hmem e.item).2 ⟨a, ha, k1, k2, k3, k4⟩)
          rw [h3] at this; cases this
        refine ⟨h.hris, hmem', putT_ris h.oris, fun x => ?_⟩
        rw [putT_mem, h.omem]
        constructor
        · rintro (⟨⟨a, ha, k1⟩, km⟩ | rfl)
          · refine ⟨⟨a, mem_snoc.2 (.inl ha), k1⟩, fun b hb => ?_⟩
            rcases mem_snoc.1 hb with hb | rfl
            · exact km b hb
            · intro _ _ _; omega
          · refine ⟨⟨e, mem_snoc.2 (.inr rfl), ht, hp, rfl, h2⟩, fun b hb k1 k2 k3 => ?_⟩
            rcases mem_snoc.1 hb with hb | rfl
            · have := hno b hb k1 k2 k3; omega
            · omega
        · rintro ⟨⟨a, ha, k1, k2, k3, k4⟩, km⟩
          rcases mem_snoc.1 ha with ha | rfl
          · exact .inl ⟨⟨a, ha, k1, k2, k3, k4⟩, fun b hb => km b (mem_snoc.2 (.inl hb))⟩
          · exact .inr k3.symm
      · rw [if_neg h2]
        refine ⟨h.hris, hmem', h.oris, fun x => (h.omem x).trans ?_⟩
        constructor
        · rintro ⟨⟨a, ha, k1⟩, km⟩
          refine ⟨⟨a, mem_snoc.2 (.inl ha), k1⟩, fun b hb => ?_⟩
          rcases mem_snoc.1 hb with hb | rfl
          · exact km b hb
          · intro _ _ _; omega
        · rintro ⟨⟨a, ha, k1, k2, k3, k4⟩, km⟩
          refine ⟨?_, fun b hb => km b (mem_snoc.2 (.inl hb))⟩
          rcases mem_snoc.1 ha with ha | rfl
          · exact ⟨a, ha, k1, k2, k3, k4⟩
          · exfalso
            have h3 : inT s.1 a.item = true := by
              cases hh : inT s.1 a.item with
              | true => rfl
              | false => exact absurd ⟨k4, hh⟩ h2
            obtain ⟨b, hb, q1, q2, q3, q4⟩ := (h.hmem _).1 (inT_iff.1 h3)
            have := km b (mem_snoc.2 (.inl hb)) q1 q2 (q3.trans k3)
            omega
  · have hif : (tookE e && (e.person == p)) = false := by
      rw [Bool.eq_false_iff]; intro k
      rw [Bool.and_eq_true, beqB_iff] at k; exact hc k
    rw [if_neg (by rw [hif]; decide)]
    refine ⟨h.hris, fun x => (h.hmem x).trans ⟨?_, ?_⟩, h.oris, fun x => (h.omem x).trans (first_not fun k => hc ⟨k.1, k.2.1⟩).symm⟩
    · rintro ⟨a, ha, k⟩; exact ⟨a, mem_snoc.2 (.inl ha), k⟩
    · rintro ⟨a, ha, k1, k2, k3⟩
      rcases mem_snoc.1 ha with ha | rfl
      · exact ⟨a, ha, k1, k2, k3⟩
      · exact absurd ⟨k1, k2⟩ hc
theorem items_ok {l : List Ev} (h : l.Pairwise (fun a b => a.tick ≤ b.tick)) (p : ByteArray) (d : Int) : HadI p d l (hadS l p d) := by
  have := fold_inv (R := fun a b : Ev => a.tick ≤ b.tick) (HadI p d) (hadStep p d) l [] ([], []) ⟨List.Pairwise.nil, fun x => by simp, List.Pairwise.nil, fun x => by simp [FirstD]⟩ (by simpa using h) (fun _ _ _ h hs => had_step h hs)
  simpa [hadS] using this
def thereL (l : List Cas) (p : ByteArray) (t : Int) : Bool := l.any (fun c => (c.person == p) && decide (c.tick = t))
def refC (l : List Ev) (e : Ev) : Cas := ⟨e.person, dayE e * 86400, itemsR l e.person (dayE e)⟩
def refStep (l : List Ev) (out : List Cas) (e : Ev) : List Cas :=
  if tookE e && !(refC l e).items.isEmpty && !thereL out (refC l e).person (refC l e).tick then putE casLt out (refC l e) else out
def casesR (l : List Ev) : List Cas := l.foldl (refStep l) []
theorem refs_snoc {l m : List Ev} {k : Nat} {e : Ev} (h : l[k]? = some e) : (l.take (k + 1)).foldl (refStep m) [] = refStep m ((l.take k).foldl (refStep m) []) e := by
  rw [List.take_add_one, h]; simp
theorem thereL_iff {l : List Cas} {p : ByteArray} {t : Int} : thereL l p t = true ↔ ∃ c ∈ l, c.person = p ∧ c.tick = t := by
  unfold thereL
  rw [List.any_eq_true]
  constructor
  · rintro ⟨c, hc, h⟩; rw [Bool.and_eq_true, beqB_iff, decide_eq_true_eq] at h; exact ⟨c, hc, h⟩
  · rintro ⟨c, hc, rfl, rfl⟩; exact ⟨c, hc, by rw [beqB_self]; simp⟩
/-- An insertion from the end. -/
theorem put_at {α : Type} {lt : α → α → Bool} {out : List α} {x : α} {k : Nat} (h1 : ∀ y ∈ out.take k, lt x y = false) (h2 : ∀ y ∈ out.drop k, lt x y = true) : putE lt out x = out.take k ++ x :: out.drop k := by
  have e : out = out.take k ++ out.drop k := (List.take_append_drop k out).symm
  have ht : out.takeWhile (fun y => !lt x y) = out.take k := by
    conv => lhs; rw [e]
    rw [List.takeWhile_append_of_pos (fun y hy => by rw [h1 y hy]; rfl)]
    cases hd : out.drop k with
    | nil => simp
    | cons z r => rw [List.takeWhile_cons, if_neg (by rw [h2 z (by rw [hd]; simp)]; decide)]; simp
  have hdr : out.dropWhile (fun y => !lt x y) = out.drop k := by
    have e2 : out.takeWhile (fun y => !lt x y) ++ out.dropWhile (fun y => !lt x y) = out := List.takeWhile_append_dropWhile
    rw [ht] at e2
    conv at e2 => rhs; rw [e]
    exact List.append_cancel_left e2
  unfold putE
  rw [ht, hdr]
structure RefI (l pre : List Ev) (out : List Cas) : Prop where
  ris : Ris casLt out
  sound : ∀ c ∈ out, ∃ e, c = refC l e ∧ c.items ≠ []
  cover : ∀ e ∈ pre, tookE e = true → itemsR l e.person (dayE e) ≠ [] → ∃ c ∈ out, c.person = e.person ∧ c.tick = dayE e * 86400
theorem ref_step {l pre : List Ev} {out : List Cas} {e : Ev} (h : RefI l pre out) : RefI l (pre ++ [e]) (refStep l out e) := by
  unfold refStep
  by_cases hc : (tookE e && !(refC l e).items.isEmpty && !thereL out (refC l e).person (refC l e).tick) = true
  · rw [if_pos hc]
    rw [Bool.and_eq_true, Bool.and_eq_true, Bool.not_eq_true', Bool.not_eq_true'] at hc
    obtain ⟨⟨_, h2⟩, h3⟩ := hc
    obtain ⟨p1, p2⟩ := put_srt casLt_swo (ris_srt casLt_swo h.ris) (refC l e)
    have hne : (refC l e).items ≠ [] := fun k => by rw [k] at h2; cases h2
    refine ⟨?_, fun c hc => ?_, fun a ha k1 k2 => ?_⟩
    · have hkey : ((out ++ [refC l e]).map fun c => (c.person, c.tick)).Nodup := by
        rw [List.map_append, List.nodup_append]
        refine ⟨?_, by simp, fun a ha b hb hab => ?_⟩
        · refine List.pairwise_map.2 (h.ris.imp fun {a b} k hab => ?_)
          simp only [Prod.mk.injEq] at hab
          rcases casLt_iff.1 k with k | ⟨_, k⟩
          · omega
          · rw [hab.1, ltB_irr] at k; cases k
        · subst hab
          obtain ⟨c, hc, rfl⟩ := List.mem_map.1 ha
          simp only [List.map_cons, List.map_nil, List.mem_singleton, Prod.mk.injEq] at hb
          have := thereL_iff.2 ⟨c, hc, hb.1, hb.2⟩
          rw [h3] at this; cases this
      have hkey2 : ((putE casLt out (refC l e)).map fun c => (c.person, c.tick)).Nodup := ((p2.perm.map _).nodup_iff).1 hkey
      refine (p1.and (List.pairwise_map.1 hkey2)).imp fun {a b} ⟨k1, k2⟩ => ?_
      cases hab : casLt a b with
      | true => rfl
      | false =>
        exfalso
        rw [Bool.eq_false_iff, Ne, casLt_iff] at k1 hab
        have ht : a.tick = b.tick := by
          by_cases q : a.tick < b.tick
          · exact absurd (.inl q) hab
          · by_cases q2 : b.tick < a.tick
            · exact absurd (.inl q2) k1
            · omega
        refine k2 (Prod.ext ?_ ht)
        refine Classical.byContradiction fun hp => ?_
        cases q : ltB a.person b.person with
        | true => exact hab (.inr ⟨ht, q⟩)
        | false => exact k1 (.inr ⟨ht.symm, ltB_tot hp q⟩)
    · rcases mem_snoc.1 (p2.mem.1 hc) with hc | rfl
      · exact h.sound c hc
      · exact ⟨e, rfl, hne⟩
    · rcases mem_snoc.1 ha with ha | rfl
      · obtain ⟨c, hc, k⟩ := h.cover a ha k1 k2
        exact ⟨c, p2.mem.2 (mem_snoc.2 (.inl hc)), k⟩
      · exact ⟨refC l a, p2.mem.2 (mem_snoc.2 (.inr rfl)), rfl, rfl⟩
  · rw [if_neg hc]
    refine ⟨h.ris, h.sound, fun a ha k1 k2 => ?_⟩
    rcases mem_snoc.1 ha with ha | rfl
    · exact h.cover a ha k1 k2
    · cases ht : thereL out (refC l a).person (refC l a).tick with
      | true => exact thereL_iff.1 ht
      | false =>
        refine absurd ?_ hc
        rw [k1, ht]
        have : (refC l a).items.isEmpty = false := by
          cases hi : (refC l a).items with
          | nil => exact absurd hi k2
          | cons _ _ => rfl
        rw [this]; rfl
theorem casesR_ok {l : List Ev} (h : l.Pairwise (fun a b => a.tick ≤ b.tick)) : CasOk l (casesR l) := by
  have hi : RefI l l (casesR l) := by
    have := fold_inv (R := fun _ _ : Ev => True) (RefI l) (refStep l) l [] [] ⟨List.Pairwise.nil, fun c hc => by (cases hc), fun e he => by (cases he)⟩ (by simpa using List.Pairwise.imp (fun _ => trivial) h) (fun _ _ _ h _ => ref_step h)
    simpa [casesR] using this
  refine ⟨hi.ris, fun c hc => ?_, fun p d x hf => ?_⟩
  · obtain ⟨e, rfl, hne⟩ := hi.sound c hc
    exact ⟨dayE e, rfl, hne, (items_ok h _ _).oris, (items_ok h _ _).omem⟩
  · obtain ⟨⟨e, he, h1, h2, h3, h4⟩, _⟩ := id hf
    subst h2; subst h4
    refine hi.cover e he h1 fun h0 => ?_
    have := ((items_ok h e.person (dayE e)).omem x).2 hf
    rw [show (hadS l e.person (dayE e)).2 = [] from h0] at this
    cases this
/-- The program's cases are the document's. -/
theorem cases_one {l : List Ev} (h : l.Pairwise (fun a b => a.tick ≤ b.tick)) {ks : List Idt} (hr : Ris dayLt ks) (hm : ∀ k, k ∈ ks ↔ k ∈ (casS l).2.map (·.1)) : caseP (casS l).2 ks = casesR l := (caseP_ok h hr hm).one (casesR_ok h)
end Go.Proofs.YtpkkkhgmkndpdaaGreatDoor
