/-
  What is defined and proved here: who was exposed, as the document notes it (a list), and as the program does (maps): since when, and whom. No program is in sight. No condition but those told.
-/
import Derived.Test.YtdkgphambjnbiaaDoorTrId
namespace Go.Proofs.YtdkgphambjnbiaaDoor
open Go Go.RowKit Go.Proofs
structure Xp where
  trial : ByteArray
  person : ByteArray
  tick : Int
/-! ### a map written, and looked up -/
section
variable {β : Type}
theorem getM_putM (l : List (ByteArray × β)) (k : ByteArray) (v : β) (n : ByteArray) : getM (fun a b : ByteArray => a == b) (putM (fun a b : ByteArray => a == b) l k v) n = if n = k then some v else getM (fun a b : ByteArray => a == b) l n := by
  unfold putM
  cases ha : l.any (fun p => k == p.1)
  · rw [if_neg (by decide)]
    unfold getM
    rw [List.find?_append]
    by_cases hn : n = k
    · subst hn
      have h0 : l.find? (fun p => n == p.1) = none := by
        rw [List.find?_eq_none]; intro x hx; have := List.any_eq_false.1 ha x hx; simpa using this
      rw [h0, if_pos rfl]
      simp [beq_bytes.2 (rfl : n = n)]
    · rw [if_neg hn]
      have h1 : (n == k) = false := beq_bytes_false.2 hn
      simp [h1]
  · rw [if_pos rfl]
    unfold getM
    rw [List.find?_map]
    have hq : ((fun p : ByteArray × β => n == p.1) ∘ fun p => if (k == p.1) = true then (p.1, v) else p) = fun p => n == p.1 := by
      funext p
      simp only [Function.comp]
      split <;> rfl
    rw [hq, Option.map_map]
    by_cases hn : n = k
    · subst hn
      rw [if_pos rfl]
      cases hf : l.find? (fun p => n == p.1) with
      | none =>
        obtain ⟨x, hx, hp⟩ := List.any_eq_true.1 ha
        exact absurd hp (List.find?_eq_none.1 hf x hx)
      | some p =>
        have hp : (n == p.1) = true := List.find?_some (p := fun q : ByteArray × β => n == q.1) hf
        simp [hp]
    · rw [if_neg hn]
      cases hf : l.find? (fun p => n == p.1) with
      | none => rfl
      | some p =>
        have hp : (n == p.1) = true := List.find?_some (p := fun q : ByteArray × β => n == q.1) hf
        have hk : (k == p.1) = false := beq_bytes_false.2 (fun e => hn ((beq_bytes.1 hp).trans e.symm))
        simp [hk]
end
theorem getM_putMin (l : List (ByteArray × Int)) (k : ByteArray) (a : Int) (n : ByteArray) : getM (fun a b : ByteArray => a == b) (putMin l k a) n = if n = k then some (match getM (fun a b : ByteArray => a == b) l k with | none => a | some s => if a < s then a else s) else getM (fun a b : ByteArray => a == b) l n := by
  unfold putMin
  cases hg : getM (fun a b : ByteArray => a == b) l k with
  | none => simp only; rw [getM_putM]
  | some s =>
    simp only
    by_cases h : a < s
    · rw [if_pos h, getM_putM, if_pos h]
    · rw [if_neg h, if_neg h]
      by_cases hn : n = k
      · subst hn; rw [if_pos rfl]; exact hg
      · rw [if_neg hn]
open Classical in
theorem putMin_keys (l : List (ByteArray × Int)) (k : ByteArray) (a : Int) : (putMin l k a).map (·.1) = if k ∈ l.map (·.1) then l.map (·.1) else l.map (·.1) ++ [k] := by
  unfold putMin
  cases hg : getM (fun a b : ByteArray => a == b) l k with
  | none =>
    simp only
    rw [putM_none hg, if_neg (fun h => by obtain ⟨p, hp, e⟩ := List.mem_map.1 h; exact getM_none_iff.1 hg p hp e)]
    simp
  | some s =>
    simp only
    have hin : k ∈ l.map (·.1) := List.mem_map_of_mem (f := (·.1)) (getM_mem hg)
    rw [if_pos hin]
    split
    · exact putM_keys s hg
    · rfl

/-! ### who was exposed -/
def xsStep (xs : ByteArray → List (ByteArray × Int)) (e : Xp) : ByteArray → List (ByteArray × Int) := setX xs e.trial (putMin (xs e.trial) e.person e.tick)
/-- The maps of a book in which these were exposed. -/
def xsOf (had : List Xp) : ByteArray → List (ByteArray × Int) := had.foldl xsStep (fun _ => [])
theorem xsOf_snoc (had : List Xp) (e : Xp) : xsOf (had ++ [e]) = xsStep (xsOf had) e := by unfold xsOf; rw [List.foldl_append]; rfl
theorem xsStep_at (xs : ByteArray → List (ByteArray × Int)) (e : Xp) (name : ByteArray) : xsStep xs e name = if name = e.trial then putMin (xs name) e.person e.tick else xs name := by
  unfold xsStep
  by_cases h : name = e.trial
  · subst h; rw [if_pos rfl, setX_same]
  · rw [if_neg h, setX_other _ _ h]
/-- The document's since: the first tick; -1: never. -/
def sinceStep (name p : ByteArray) (a : Int) (x : Xp) : Int := if ((x.trial == name) && (x.person == p) && (decide (a < 0) || decide (x.tick < a))) = true then x.tick else a
def sinceX (had : List Xp) (name p : ByteArray) : Int := had.foldl (sinceStep name p) (-1)
theorem sinceX_take {had : List Xp} {k : Nat} {x : Xp} (name p : ByteArray) (h : had[k]? = some x) : sinceX (had.take (k + 1)) name p = sinceStep name p (sinceX (had.take k) name p) x := by
  unfold sinceX; rw [List.take_add_one, h, List.foldl_append]; rfl
theorem since_xs (name p : ByteArray) : ∀ (had : List Xp) (xs : ByteArray → List (ByteArray × Int)) (a : Int), (∀ x ∈ had, 0 ≤ x.tick) → (∀ s, getM (fun a b : ByteArray => a == b) (xs name) p = some s → 0 ≤ s) → a = (getM (fun a b : ByteArray => a == b) (xs name) p).getD (-1) →
    had.foldl (sinceStep name p) a = (getM (fun a b : ByteArray => a == b) (had.foldl xsStep xs name) p).getD (-1) ∧ ∀ s, getM (fun a b : ByteArray => a == b) (had.foldl xsStep xs name) p = some s → 0 ≤ s
  | [], _, _, _, hp, ha => ⟨ha, hp⟩
  | x :: had, xs, a, h0, hp, ha => by
    have hx := h0 x (by simp)
    have hstep : getM (fun a b : ByteArray => a == b) (xsStep xs x name) p = if name = x.trial ∧ p = x.person then some (match getM (fun a b : ByteArray => a == b) (xs name) p with | none => x.tick | some s => if x.tick < s then x.tick else s) else getM (fun a b : ByteArray => a == b) (xs name) p := by
      rw [xsStep_at]
      by_cases h1 : name = x.trial
      · rw [if_pos h1, getM_putMin]
        by_cases h2 : p = x.person
        · rw [if_pos h2, if_pos ⟨h1, h2⟩, h2]
        · rw [if_neg h2, if_neg (fun h => h2 h.2)]
      · rw [if_neg h1, if_neg (fun h => h1 h.1)]
    refine since_xs name p had (xsStep xs x) _ (fun y hy => h0 y (by simp [hy])) ?_ ?_
    · rw [hstep]
      split
      · intro s hs
        cases hg : getM (fun a b : ByteArray => a == b) (xs name) p with
        | none => rw [hg] at hs; simp at hs; omega
        | some z =>
          have hz := hp z hg
          rw [hg] at hs; simp at hs
          split at hs <;> omega
      · exact hp
    · rw [hstep]
      unfold sinceStep
      by_cases h : name = x.trial ∧ p = x.person
      · have e1 : (x.trial == name) = true := beq_bytes.2 h.1.symm
        have e2 : (x.person == p) = true := beq_bytes.2 h.2.symm
        rw [if_pos h, e1, e2]
        cases hg : getM (fun a b : ByteArray => a == b) (xs name) p with
        | none =>
          rw [hg] at ha
          simp at ha
          subst ha
          simp
        | some z =>
          have hz := hp z hg
          rw [hg] at ha
          simp at ha
          subst ha
          by_cases hlt : x.tick < a
          · simp [hlt]
          · have : ¬ a < 0 := by omega
            simp [hlt, this]
      · rw [if_neg h]
        have : ((x.trial == name) && (x.person == p) && (decide (a < 0) || decide (x.tick < a))) = false := by
          cases e1 : (x.trial == name)
          · rfl
          · cases e2 : (x.person == p)
            · rfl
            · exact absurd ⟨(beq_bytes.1 e1).symm, (beq_bytes.1 e2).symm⟩ h
        rw [this, if_neg (by decide)]
        exact ha
theorem since_is {had : List Xp} (h : ∀ x ∈ had, 0 ≤ x.tick) (name p : ByteArray) : sinceX had name p = (getM (fun a b : ByteArray => a == b) (xsOf had name) p).getD (-1) ∧ ∀ s, getM (fun a b : ByteArray => a == b) (xsOf had name) p = some s → 0 ≤ s := by
  exact since_xs name p had (fun _ => []) (-1) h (fun s hs => by simp [getM] at hs) (by simp [getM])
/-- The people of a trial, each once. -/
def peopleX (had : List Xp) (name : ByteArray) : List ByteArray := (xsOf had name).map (·.1)
open Classical in
theorem peopleX_take {had : List Xp} {k : Nat} {x : Xp} (name : ByteArray) (h : had[k]? = some x) : peopleX (had.take (k + 1)) name = if x.trial = name ∧ x.person ∉ peopleX (had.take k) name then peopleX (had.take k) name ++ [x.person] else peopleX (had.take k) name := by
  unfold peopleX
  rw [List.take_add_one, h, Option.toList_some, xsOf_snoc, xsStep_at]
  by_cases h1 : name = x.trial
  · rw [if_pos h1, putMin_keys]
    by_cases h2 : x.person ∈ (xsOf (had.take k) name).map (·.1)
    · rw [if_pos h2, if_neg (fun h => h.2 h2)]
    · rw [if_neg h2, if_pos ⟨h1.symm, h2⟩]
  · rw [if_neg h1, if_neg (fun h => h1 h.1.symm)]
/-- Whether one of the first ones is of this trial and person. -/
def wasX (l : List Xp) (x : Xp) : Bool := l.any (fun y => (y.trial == x.trial) && (y.person == x.person))
theorem peopleX_mem : ∀ (k : Nat) (had : List Xp) (name p : ByteArray), p ∈ peopleX (had.take k) name ↔ ∃ y ∈ had.take k, y.trial = name ∧ y.person = p
  | 0, had, name, p => by simp [peopleX, xsOf]
  | k + 1, had, name, p => by
    have ih := peopleX_mem k had name p
    cases hk : had[k]? with
    | none =>
      have hl : had.length ≤ k := by simpa using hk
      rw [List.take_of_length_le hl] at ih
      rw [List.take_of_length_le (by omega)]
      exact ih
    | some x =>
      have hm : ∀ y, y ∈ had.take (k + 1) ↔ y ∈ had.take k ∨ y = x := fun y => by rw [List.take_add_one, hk]; simp
      rw [peopleX_take name hk]
      by_cases h : x.trial = name ∧ x.person ∉ peopleX (had.take k) name
      · rw [if_pos h, List.mem_append, ih]
        constructor
        · rintro (⟨y, hy, h2⟩ | h2)
          · exact ⟨y, (hm y).2 (.inl hy), h2⟩
          · simp at h2; exact ⟨x, (hm x).2 (.inr rfl), h.1, h2.symm⟩
        · rintro ⟨y, hy, h2⟩
          rcases (hm y).1 hy with hy | rfl
          · exact .inl ⟨y, hy, h2⟩
          · exact .inr (by simp [h2.2])
      · rw [if_neg h, ih]
        constructor
        · rintro ⟨y, hy, h2⟩
          exact ⟨y, (hm y).2 (.inl hy), h2⟩
        · rintro ⟨y, hy, h2⟩
          rcases (hm y).1 hy with hy | rfl
          · exact ⟨y, hy, h2⟩
          · have h3 : y.person ∈ peopleX (had.take k) name := Classical.byContradiction fun h4 => h ⟨h2.1, h4⟩
            have h5 := (peopleX_mem k had name y.person).1 h3
            rw [h2.2] at h5
            exact h5
theorem peopleX_was {had : List Xp} {k : Nat} {x : Xp} {name : ByteArray} (h : x.trial = name) : wasX (had.take k) x = true ↔ x.person ∈ peopleX (had.take k) name := by
  rw [peopleX_mem]
  unfold wasX
  rw [List.any_eq_true]
  constructor
  · rintro ⟨y, hy, h2⟩
    rw [Bool.and_eq_true] at h2
    exact ⟨y, hy, (beq_bytes.1 h2.1).trans h, beq_bytes.1 h2.2⟩
  · rintro ⟨y, hy, h1, h2⟩
    exact ⟨y, hy, by rw [Bool.and_eq_true]; exact ⟨beq_bytes.2 (h1.trans h.symm), beq_bytes.2 h2⟩⟩
/-- How many people of an arm. -/
def pplN (t : Tr) (ds : List ByteArray) (j : Nat) : Nat := ds.countP (fun d => armNo t d == (j : Int))
theorem pplN_yes {t : Tr} {had : List Xp} {k j : Nat} {x : Xp} {name : ByteArray} (h : had[k]? = some x) (h1 : x.trial = name) (h2 : wasX (had.take k) x = false) (h3 : armNo t x.person = j) : pplN t (peopleX (had.take (k + 1)) name) j = pplN t (peopleX (had.take k) name) j + 1 := by
  rw [peopleX_take name h, if_pos ⟨h1, fun h4 => by rw [(peopleX_was h1).2 h4] at h2; cases h2⟩]
  unfold pplN
  rw [List.countP_append]; simp [h3]
theorem pplN_no {t : Tr} {had : List Xp} {k j : Nat} {x : Xp} {name : ByteArray} (h : had[k]? = some x) (hn : x.trial ≠ name ∨ wasX (had.take k) x = true ∨ armNo t x.person ≠ j) : pplN t (peopleX (had.take (k + 1)) name) j = pplN t (peopleX (had.take k) name) j := by
  rw [peopleX_take name h]
  by_cases h9 : x.trial = name ∧ x.person ∉ peopleX (had.take k) name
  · rw [if_pos h9]
    rcases hn with hn | hn | hn
    · exact absurd h9.1 hn
    · exact absurd ((peopleX_was h9.1).1 hn) h9.2
    · unfold pplN
      rw [List.countP_append]; simp [hn]
  · rw [if_neg h9]
/-- Twins: among all events that may be, as among the first of each identity. -/
theorem seenL_any : ∀ (k : Nat) (l : List Ev) (e : Ev), (seenL (l.take k)).any (fun x => sameI x e) = (l.take k).any (fun x => mayE x && sameI x e)
  | 0, l, e => by simp [seenL]
  | k + 1, l, e => by
    have ih := seenL_any k l e
    cases hk : l[k]? with
    | none =>
      have hl : l.length ≤ k := by simpa using hk
      rw [List.take_of_length_le hl] at ih
      rw [List.take_of_length_le (by omega)]
      exact ih
    | some x =>
      rw [seenL_take hk, List.take_add_one, hk, Option.toList_some, List.any_append, ← ih]
      unfold seenStep
      cases hm : mayE x
      · simp [hm]
      · cases ha : (seenL (l.take k)).any (fun y => sameI y x)
        · simp [hm]
        · rw [if_neg (by simp)]
          cases hs : sameI x e
          · simp [hm, hs]
          · have : (seenL (l.take k)).any (fun y => sameI y e) = true := by
              obtain ⟨y, hy, h2⟩ := List.any_eq_true.1 ha
              refine List.any_eq_true.2 ⟨y, hy, ?_⟩
              rw [sameI_iff] at h2 hs ⊢
              exact ⟨h2.1.trans hs.1, h2.2.trans hs.2⟩
            rw [this]; rfl
end Go.Proofs.YtdkgphambjnbiaaDoor
