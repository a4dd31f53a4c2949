/-
  What is proved here: maps of the call's own as plain lists of keys and values, in the order in which the keys came: looked up, written, counted, gone through. No program is in sight. No condition.
  identities (a source and a number, in a struct of two fields) as keys of a map. No program is in sight. No condition.
  two texts in a struct of two fields as keys of a map. No program is in sight. No condition.
-/
import Derived.Test.YtpkkkhgmkndpdaaGreatDoorBase
import Derived.MapKept
import Derived.Maps.RangeRun
import Derived.Carry
import Derived.DeepKeys3
import Derived.ChangeKeysEq
import Derived.Laws.StructEq
namespace Go.Proofs.YtpkkkhgmkndpdaaGreatDoor
open Go Go.RowKit Go.MapKept

/-- How keys and values lie: a key is what mk makes of it, and finding goes by sameness. -/
structure MK (P : Program) (kt : TypeId) (κ : Type) where
  of : κ → Value
  eq : κ → κ → Bool
  eq_iff : ∀ a b, eq a b = true ↔ a = b
  check : ∀ (w : World) (em : Bool) (a : κ), (Instr.checkKey em 10000 kt (of a)).run P w = .ok () w
  find : ∀ (w : World) (a : κ) (es : List MapEntry), (∀ x ∈ es, ∃ b, x.key = of b) →
    ((Instr.findKey kt (of a) es).run P w = .ok none w ∧ ∀ x ∈ es, x.key ≠ of a) ∨ ∃ (j : Nat) (e : MapEntry), (Instr.findKey kt (of a) es).run P w = .ok (some (j, e.val)) w ∧ es[j]? = some e ∧ e.key = of a
  inj : ∀ a b, of a = of b → a = b
  stays : ∀ (w : World) (a : κ), (Instr.keyThatStays (of a) (of a)).run P w = .ok (of a) w

section
variable {κ β : Type}
def getM (eq : κ → κ → Bool) (l : List (κ × β)) (k : κ) : Option β := (l.find? (fun p => eq k p.1)).map (·.2)
def putM (eq : κ → κ → Bool) (l : List (κ × β)) (k : κ) (v : β) : List (κ × β) := if l.any (fun p => eq k p.1) then l.map (fun p => if eq k p.1 then (p.1, v) else p) else l ++ [(k, v)]
end

/-- Block b is a map; it holds l, in the order in which the keys came. -/
def Mp {P : Program} {kt : TypeId} {κ β : Type} (K : MK P kt κ) (V : β → Value) (w : World) (b : Nat) (l : List (κ × β)) : Prop :=
  ∃ es clock, w.heap[b]? = some (.map es clock) ∧ Stamped es clock ∧ es.toList.map (fun x => (x.key, x.val)) = l.map (fun p => (K.of p.1, V p.2))

section
variable {P : Program} {kt : TypeId} {κ β : Type} {K : MK P kt κ} {V : β → Value} {w w' : World} {b : Nat} {l : List (κ × β)}
theorem Mp.lt (h : Mp K V w b l) : b < w.heap.size := by obtain ⟨es, c, hb, _⟩ := h; exact (Array.getElem?_eq_some_iff.1 hb).1
theorem Mp.keep {ok : Nat → Prop} (h : Mp K V w b l) (hk : Keeps ok w w') (ho : ok b) : Mp K V w' b l := by
  obtain ⟨es, c, hb, hs, he⟩ := h
  exact ⟨es, c, hk.blk hb ho, hs, he⟩
theorem Mp.ext (h : Mp K V w b l) (hk : Ext w w') : Mp K V w' b l := h.keep hk trivial
theorem Mp.new (w : World) : Mp K V (w.alloc (.map #[] 0)) w.heap.size ([] : List (κ × β)) := ⟨#[], 0, blk_new w _, stamped_empty 0, rfl⟩
theorem Mp.ne_cells (h : Mp K V w b l) {g : Nat} {C : Array Value} {t : TypeId} {fr : Nat × Nat} (hg : w.heap[g]? = some (.cells C t fr)) : b ≠ g := by
  obtain ⟨es, c, hb, _⟩ := h
  rintro rfl
  rw [hb] at hg; cases hg
theorem Mp.keys (h : Mp K V w b l) : (l.map (·.1)).Nodup := by
  obtain ⟨es, c, _, hs, he⟩ := h
  have h2 := hs.2.2
  have e2 : es.toList.map (·.key) = l.map (fun p => K.of p.1) := by
    have := congrArg (List.map Prod.fst) he
    simpa [List.map_map, Function.comp_def] using this
  rw [e2] at h2
  have e3 : l.map (fun p => K.of p.1) = (l.map (·.1)).map K.of := by simp [List.map_map, Function.comp_def]
  rw [e3, List.Nodup, List.pairwise_map] at h2
  exact h2.imp (fun h e => h (by rw [e]))

theorem mp_key_at {es : List MapEntry} (he : es.map (fun x => (x.key, x.val)) = l.map (fun p => (K.of p.1, V p.2))) {j : Nat} {e : MapEntry} (hj : es[j]? = some e) : ∃ p, l[j]? = some p ∧ e.key = K.of p.1 ∧ e.val = V p.2 := by
  have := congrArg (fun l => l[j]?) he
  simp only [List.getElem?_map, hj, Option.map_some] at this
  cases hp : l[j]? with
  | none => rw [hp] at this; cases this
  | some p =>
    rw [hp] at this
    simp only [Option.map_some, Option.some.injEq, Prod.mk.injEq] at this
    exact ⟨p, rfl, this.1, this.2⟩
theorem mp_keys_all {es : List MapEntry} (he : es.map (fun x => (x.key, x.val)) = l.map (fun p => (K.of p.1, V p.2))) : ∀ x ∈ es, ∃ c, x.key = K.of c := by
  intro x hx
  obtain ⟨j, hj, rfl⟩ := List.mem_iff_getElem.1 hx
  obtain ⟨p, _, h, _⟩ := mp_key_at he (List.getElem?_eq_getElem hj)
  exact ⟨p.1, h⟩
theorem eq_false {a c : κ} (h : a ≠ c) : K.eq a c = false := by
  rw [Bool.eq_false_iff]; intro e; exact h ((K.eq_iff a c).1 e)
theorem eq_self (a : κ) : K.eq a a = true := (K.eq_iff a a).2 rfl

/-- The entry at a key, or none. -/
theorem Mp.at_ (h : Mp K V w b l) (k : κ) : ∃ es clock, w.heap[b]? = some (.map es clock) ∧ Stamped es clock ∧ es.toList.map (fun x => (x.key, x.val)) = l.map (fun p => (K.of p.1, V p.2)) ∧
    ((getM K.eq l k = none ∧ l.any (fun p => K.eq k p.1) = false ∧ (∀ w, (Instr.findKey kt (K.of k) es.toList).run P w = .ok none w) ∧ ∀ x ∈ es.toList, x.key ≠ K.of k) ∨
     ∃ (j : Nat) (v : β), getM K.eq l k = some v ∧ l[j]? = some (k, v) ∧ (∀ w, (Instr.findKey kt (K.of k) es.toList).run P w = .ok (some (j, V v)) w) ∧ ∃ e, es.toList[j]? = some e ∧ e.key = K.of k) := by
  have hnd := h.keys
  obtain ⟨es, clock, hb, hs, he⟩ := h
  refine ⟨es, clock, hb, hs, he, ?_⟩
  have hall := mp_keys_all he
  by_cases hex : ∃ x ∈ es.toList, x.key = K.of k
  · right
    obtain ⟨x, hx, hxk⟩ := hex
    rcases K.find w k es.toList hall with ⟨_, h2⟩ | ⟨j, e, h1, h2, h3⟩
    · exact absurd hxk (h2 x hx)
    · obtain ⟨p, hp, hpk, hpv⟩ := mp_key_at he h2
      have hk : p.1 = k := K.inj _ _ (hpk.symm.trans h3)
      refine ⟨j, p.2, ?_, by rw [hp, ← hk], fun w' => ?_, e, h2, h3⟩
      · unfold getM
        have hf : l.find? (fun q => K.eq k q.1) = some p := by
          rw [List.find?_eq_some_iff_getElem]
          refine ⟨by rw [hk]; exact eq_self k, j, (List.getElem?_eq_some_iff.1 hp).1, (List.getElem?_eq_some_iff.1 hp).2, fun i hi => ?_⟩
          have hj : j < l.length := (List.getElem?_eq_some_iff.1 hp).1
          have hne : l[i].1 ≠ p.1 := by
            have hpw := (List.pairwise_iff_getElem.1 hnd) i j (by simp; omega) (by simp; omega) hi
            simp only [List.getElem_map, (List.getElem?_eq_some_iff.1 hp).2] at hpw
            exact hpw
          rw [eq_false (K := K) (fun e => hne (by rw [hk, e]))]; rfl
        rw [hf]; rfl
      · rcases K.find w' k es.toList hall with ⟨_, h2'⟩ | ⟨j', e', h1', h2', h3'⟩
        · exact absurd h3 (h2' e (List.mem_of_getElem? h2))
        · have hkn := hs.2.2
          have hjj : j' = j := by
            have hl1 : j < es.toList.length := (List.getElem?_eq_some_iff.1 h2).1
            have hl2 : j' < es.toList.length := (List.getElem?_eq_some_iff.1 h2').1
            have hn := List.pairwise_iff_getElem.1 hkn
            rcases Nat.lt_trichotomy j' j with h | h | h
            · have := hn j' j (by simpa using hl2) (by simpa using hl1) h
              simp only [List.getElem_map] at this
              exact absurd ((by rw [(List.getElem?_eq_some_iff.1 h2').2, h3', (List.getElem?_eq_some_iff.1 h2).2, h3])) this
            · exact h
            · have := hn j j' (by simpa using hl1) (by simpa using hl2) h
              simp only [List.getElem_map] at this
              exact absurd ((by rw [(List.getElem?_eq_some_iff.1 h2').2, h3', (List.getElem?_eq_some_iff.1 h2).2, h3])) this
          subst hjj
          rw [h2] at h2'
          obtain rfl := Option.some.inj h2'
          rw [h1', hpv]
  · left
    have hno : ∀ x ∈ es.toList, x.key ≠ K.of k := fun x hx e => hex ⟨x, hx, e⟩
    have hany : l.any (fun p => K.eq k p.1) = false := by
      rw [Bool.eq_false_iff]
      intro ha
      obtain ⟨p, hp, hpe⟩ := List.any_eq_true.1 ha
      have hpk := (K.eq_iff _ _).1 hpe
      obtain ⟨j, hj, hjp⟩ := List.mem_iff_getElem.1 hp
      have hlen : es.toList.length = l.length := by have := congrArg List.length he; simpa using this
      have hje : j < es.toList.length := by omega
      obtain ⟨q, hq, hqk, _⟩ := mp_key_at he (List.getElem?_eq_getElem hje)
      rw [List.getElem?_eq_getElem hj] at hq
      obtain rfl := Option.some.inj hq
      exact hno _ (List.getElem_mem hje) (by rw [hqk, hjp, ← hpk])
    refine ⟨?_, hany, fun w' => ?_, hno⟩
    · unfold getM
      have : l.find? (fun q => K.eq k q.1) = none := by
        rw [List.find?_eq_none]
        intro x hx
        have := List.any_eq_false.1 hany x hx
        simpa using this
      rw [this]; rfl
    · rcases K.find w' k es.toList hall with ⟨h1, _⟩ | ⟨j, e, _, h2, h3⟩
      · exact h1
      · exact absurd h3 (hno e (List.mem_of_getElem? h2))

theorem Mp.look (h : Mp K V w b l) {t et : TypeId} (ht : P.underlying t = some (.map kt et)) {z : Value} (hz : (zeroValue et).run P w = .ok z w) (k : κ) (c : Bool) :
    (Instr.lookup t (.map (some b)) (K.of k) c).run P w = .ok (if c then .tuple #[(match getM K.eq l k with | some v => V v | none => z), .bool (getM K.eq l k).isSome] else (match getM K.eq l k with | some v => V v | none => z)) w := by
  obtain ⟨es, clock, hb, hs, he, hor⟩ := h.at_ k
  rcases hor with ⟨hg, _, hf, _⟩ | ⟨j, v, hg, _, hf, _⟩
  · simp [Instr.lookup, run_underlying ht, MapKept.run_getObj_map hb, K.check, hf, hz, hg, Result.andThen]
  · simp [Instr.lookup, run_underlying ht, MapKept.run_getObj_map hb, K.check, hf, hg, Result.andThen]

theorem Mp.put (h : Mp K V w b l) {t et : TypeId} (ht : P.underlying t = some (.map kt et)) (k : κ) (v : β) :
    ∃ w', (Instr.mapUpdate t (.map (some b)) (K.of k) (V v)).run P w = .ok () w' ∧ Mp K V w' b (putM K.eq l k v) ∧ Keeps (fun i => i ≠ b) w w' ∧ w'.heap.size = w.heap.size := by
  obtain ⟨es, clock, hb, hs, he, hor⟩ := h.at_ k
  have hkeep : ∀ o, Keeps (fun i => i ≠ b) w { w with heap := w.heap.setIfInBounds b o } := fun o =>
    ⟨rfl, rfl, rfl, by simp, fun i _ hne => (heap_set hb).2 i hne⟩
  rcases hor with ⟨_, hany, hf, hno⟩ | ⟨j, v0, _, hlj, hf, e, hej, hek⟩
  · refine ⟨{ w with heap := w.heap.setIfInBounds b (.map (es.push { key := K.of k, val := V v, born := clock }) (clock + 1)) }, ?_, ⟨_, _, (heap_set hb).1, stamped_push hs hno, ?_⟩, hkeep _, by simp⟩
    · simp [Instr.mapUpdate, run_underlying ht, MapKept.run_getObj_map hb, K.check, hf, MapKept.run_setObj_map _ hb, Result.andThen]
    · unfold putM
      rw [hany]
      simp [he]
  · have hka : (es[j]?).map (·.key) = some (K.of k) := by
      have : es[j]? = some e := by rw [← Array.getElem?_toList]; exact hej
      rw [this, Option.map_some, hek]
    refine ⟨{ w with heap := w.heap.setIfInBounds b (.map (es.modify j fun e => { e with key := K.of k, val := V v }) clock) }, ?_, ⟨_, _, (heap_set hb).1, ?_, ?_⟩, hkeep _, by simp⟩
    · simp [Instr.mapUpdate, run_underlying ht, MapKept.run_getObj_map hb, K.check, hf, MapKept.run_setObj_map _ hb, Result.andThen, hka, K.stays]
    · exact stamped_modify hs _ _ (fun _ _ => rfl) (fun e' _ he' => by
        have : es[j]? = some e := by rw [← Array.getElem?_toList]; exact hej
        rw [this] at he'
        obtain rfl := Option.some.inj he'
        exact hek.symm)
    · have hnd := h.keys
      have hany : l.any (fun p => K.eq k p.1) = true := List.any_eq_true.2 ⟨_, List.mem_of_getElem? hlj, eq_self k⟩
      unfold putM
      rw [if_pos hany]
      apply List.ext_getElem?
      intro i
      have hi := congrArg (fun l => l[i]?) he
      simp only [List.getElem?_map] at hi
      simp only [List.getElem?_map, Array.getElem?_toList, Array.getElem?_modify]
      rw [Array.getElem?_toList] at hi
      by_cases hij : j = i
      · subst hij
        rw [hlj]
        have : es[j]? = some e := by rw [← Array.getElem?_toList]; exact hej
        rw [this, if_pos rfl]
        simp [eq_self]
      · rw [if_neg hij, hi]
        cases hp : l[i]? with
        | none => rfl
        | some p =>
          have hne : K.eq k p.1 = false := eq_false (K := K) (fun e => by
            have h1 : i < l.length := (List.getElem?_eq_some_iff.1 hp).1
            have h2 : j < l.length := (List.getElem?_eq_some_iff.1 hlj).1
            have hn := List.pairwise_iff_getElem.1 hnd
            have e1 : l[i].1 = k := by rw [(List.getElem?_eq_some_iff.1 hp).2, e]
            have e2 : l[j].1 = k := by rw [(List.getElem?_eq_some_iff.1 hlj).2]
            rcases Nat.lt_or_gt_of_ne hij with h' | h'
            · have := hn j i (by simpa using h2) (by simpa using h1) h'
              simp only [List.getElem_map] at this
              exact this (by rw [e1, e2])
            · have := hn i j (by simpa using h1) (by simpa using h2) h'
              simp only [List.getElem_map] at this
              exact this (by rw [e1, e2]))
          simp [hne]

theorem Mp.len (h : Mp K V w b l) {t et : TypeId} (ht : P.underlying t = some (.map kt et)) (ty : TypeId) : (Builtin.len_ #[t] ty #[.map (some b)]).run P w = .ok (.int .i64 l.length) w := by
  obtain ⟨es, c, hb, hs, he⟩ := h
  have hl : es.size = l.length := by have := congrArg List.length he; simpa using this
  simp [Builtin.len_, run_underlying ht, MapKept.run_getObj_map hb, Result.andThen, hl, goInt]

/-- Block r goes through the map at b; the keys ds are done. -/
def Iter (K : MK P kt κ) (V : β → Value) (w : World) (r b : Nat) (l : List (κ × β)) (ds : List κ) : Prop :=
  ∃ es clock since c0 seen, w.heap[b]? = some (.map es clock) ∧ Stamped es clock ∧ es.toList.map (fun x => (x.key, x.val)) = l.map (fun p => (K.of p.1, V p.2)) ∧
    w.heap[r]? = some (.mapIter (some b) since seen c0) ∧ (∀ x ∈ es.toList, x.born < since) ∧ since ≤ c0 ∧ c0 = clock ∧ (∀ x ∈ es.toList, seen.contains x.born = true ↔ ∃ d ∈ ds, x.key = K.of d) ∧ ds.Nodup ∧ ∀ d ∈ ds, d ∈ l.map (·.1)
theorem Iter.mp {r : Nat} {ds : List κ} (h : Iter K V w r b l ds) : Mp K V w b l := by
  obtain ⟨es, clock, since, c0, seen, hb, hs, he, _⟩ := h
  exact ⟨es, clock, hb, hs, he⟩
theorem Iter.keep {r : Nat} {ds : List κ} {ok : Nat → Prop} (h : Iter K V w r b l ds) (hk : Keeps ok w w') (ho : ok b) (hr : ok r) : Iter K V w' r b l ds := by
  obtain ⟨es, clock, since, c0, seen, hb, hs, he, hi, rest⟩ := h
  exact ⟨es, clock, since, c0, seen, hk.blk hb ho, hs, he, hk.blk hi hr, rest⟩
theorem Mp.range (h : Mp K V w b l) {t et : TypeId} (ht : P.underlying t = some (.map kt et)) :
    ∃ w', (Instr.range t (.map (some b))).run P w = .ok (.pointer (some ⟨w.heap.size, 0, none⟩)) w' ∧ Iter K V w' w.heap.size b l [] ∧ Ext w w' := by
  obtain ⟨es, clock, hb, hs, he⟩ := h
  refine ⟨w.alloc (.mapIter (some b) clock #[] clock), ?_, ⟨es, clock, clock, clock, #[], blk_old hb _, hs, he, blk_new _ _, hs.1, Nat.le_refl _, rfl, by simp, by simp, by simp⟩, (Keeps.refl _ _).alloc _⟩
  simp [Instr.range, run_underlying ht, MapKept.run_getObj_map hb, Result.andThen, newObj, Sem.run]
theorem setBlock_keeps {o o' : Obj} {r : Nat} (hr : w.heap[r]? = some o) : Keeps (fun i => i ≠ r) w (Go.ChangeMaps.setBlock w r o') :=
  ⟨rfl, rfl, rfl, by simp [Go.ChangeMaps.setBlock], fun i _ hne => (heap_set hr).2 i hne⟩
theorem Iter.next {r : Nat} {ds : List κ} (h : Iter K V w r b l ds) (ty : TypeId) :
    ((∀ p ∈ l, p.1 ∈ ds) ∧ (Instr.next (.pointer (some ⟨r, 0, none⟩)) false ty).run P w = .ok (.tuple #[.bool false]) w) ∨
    ∃ p ∈ l, p.1 ∉ ds ∧ ∃ w', (Instr.next (.pointer (some ⟨r, 0, none⟩)) false ty).run P w = .ok (.tuple #[.bool true, K.of p.1, V p.2]) w' ∧ (Instr.entry (.pointer (some ⟨r, 0, none⟩))).run P w' = .ok (.tuple #[K.of p.1, V p.2]) w' ∧ Iter K V w' r b l (ds ++ [p.1]) ∧ Keeps (fun i => i ≠ r) w w' := by
  obtain ⟨es, clock, since, c0, seen, hb, hs, he, hr, hold, hsc, hcc, hseen, hnd, hsub⟩ := h
  have hrb : b ≠ r := by rintro rfl; rw [hb] at hr; cases hr
  have hlen : es.toList.length = l.length := by have := congrArg List.length he; simpa using this
  rcases run_next_at (P := P) w ty r b since c0 seen es clock hr hb hold hsc with ⟨h0, hrun⟩ | ⟨e, he0, w1, hw1, hrun⟩
  · left
    refine ⟨fun p hp => ?_, hrun⟩
    obtain ⟨j, hj, hjp⟩ := List.mem_iff_getElem.1 hp
    have hje : j < es.toList.length := by omega
    obtain ⟨q, hq, hqk, _⟩ := mp_key_at he (List.getElem?_eq_getElem hje)
    rw [List.getElem?_eq_getElem hj] at hq
    obtain rfl := Option.some.inj hq
    have hin : seen.contains (es.toList[j]).born = true := by
      cases hc : seen.contains (es.toList[j]).born with
      | true => rfl
      | false =>
        have hmem : es.toList[j] ∈ (leftOf es seen).toList := by
          unfold leftOf
          simp only [Array.toList_filter, List.mem_filter]
          exact ⟨List.getElem_mem hje, by rw [hc]; rfl⟩
        have : (leftOf es seen).toList.length = 0 := by simpa using h0
        rw [List.length_eq_zero_iff.1 this] at hmem
        cases hmem
    obtain ⟨d, hd, hdk⟩ := (hseen _ (List.getElem_mem hje)).1 hin
    have : l[j].1 = d := K.inj _ _ (hqk.symm.trans hdk)
    rw [← hjp, this]; exact hd
  · right
    have hel : e ∈ es.toList ∧ seen.contains e.born = false := by
      unfold leftOf at he0
      simp only [Array.toList_filter, List.mem_filter, Bool.not_eq_true'] at he0
      exact he0
    obtain ⟨j, hj, hje⟩ := List.mem_iff_getElem.1 hel.1
    obtain ⟨p, hp, hpk, hpv⟩ := mp_key_at he (by rw [List.getElem?_eq_getElem hj, hje] : es.toList[j]? = some e)
    have hpd : p.1 ∉ ds := fun hd => by
      have := (hseen e hel.1).2 ⟨p.1, hd, hpk⟩
      rw [hel.2] at this; cases this
    have hr1 : w1.heap[r]? = some (.mapIter (some b) since seen c0) := by rcases hw1 with rfl | rfl <;> exact hr
    have hb1 : w1.heap[b]? = some (.map es clock) := by rcases hw1 with rfl | rfl <;> exact hb
    have hk1 : Keeps (fun i => i ≠ r) w w1 := by
      rcases hw1 with rfl | rfl
      · exact Keeps.refl _ _
      · exact (Keeps.refl _ _).drew
    have hr2 : (Go.ChangeMaps.setBlock w1 r (.mapIter (some b) since (seen.push e.born) clock)).heap[r]? = some (.mapIter (some b) since (seen.push e.born) clock) := (heap_set hr1).1
    have hb2 : (Go.ChangeMaps.setBlock w1 r (.mapIter (some b) since (seen.push e.born) clock)).heap[b]? = some (.map es clock) := ((heap_set hr1).2 b hrb).trans hb1
    refine ⟨p, List.mem_of_getElem? hp, hpd, _, by rw [hrun, hpk, hpv], ?_, ⟨es, clock, since, clock, seen.push e.born, hb2, hs, he, hr2, hold, by omega, rfl, fun x hx => ?_, ?_, ?_⟩, hk1.trans (setBlock_keeps hr1)⟩
    · rw [run_entry_at _ r b since seen es clock e hr2 hb2 hel.1 hs.2.1, hpk, hpv]
    · simp only [Array.contains_push, Bool.or_eq_true, List.mem_append, List.mem_singleton]
      constructor
      · rintro (h1 | h1)
        · obtain ⟨d, hd, hdk⟩ := (hseen x hx).1 h1
          exact ⟨d, .inl hd, hdk⟩
        · have hxe : x = e := by
            have h1' : x.born = e.born := by simpa using h1
            have hn := hs.2.1
            obtain ⟨i, hi, hie⟩ := List.mem_iff_getElem.1 hx
            have hpw := List.pairwise_iff_getElem.1 hn
            rcases Nat.lt_trichotomy i j with h' | h' | h'
            · have := hpw i j (by simpa using hi) (by simpa using hj) h'
              simp only [List.getElem_map] at this
              exact absurd (by rw [hie, hje, h1']) this
            · subst h'; rw [← hie, ← hje]
            · have := hpw j i (by simpa using hj) (by simpa using hi) h'
              simp only [List.getElem_map] at this
              exact absurd (by rw [hie, hje, h1']) this
          exact ⟨p.1, .inr rfl, by rw [hxe, hpk]⟩
      · rintro ⟨d, hd | rfl, hdk⟩
        · exact .inl ((hseen x hx).2 ⟨d, hd, hdk⟩)
        · right
          have hn := hs.2.2
          obtain ⟨i, hi, hie⟩ := List.mem_iff_getElem.1 hx
          have hpw := List.pairwise_iff_getElem.1 hn
          rcases Nat.lt_trichotomy i j with h' | h' | h'
          · have := hpw i j (by simpa using hi) (by simpa using hj) h'
            simp only [List.getElem_map] at this
            exact absurd (by rw [hie, hje, hdk, hpk]) this
          · subst h'; rw [← hie, ← hje]; simp
          · have := hpw j i (by simpa using hj) (by simpa using hi) h'
            simp only [List.getElem_map] at this
            exact absurd (by rw [hie, hje, hdk, hpk]) this
    · rw [List.nodup_append]
      exact ⟨hnd, by simp, fun a ha c hc e => hpd (by simp at hc; rw [← hc, ← e]; exact ha)⟩
    · intro d hd
      rcases List.mem_append.1 hd with hd | hd
      · exact hsub d hd
      · simp at hd; subst hd; exact List.mem_map_of_mem (List.mem_of_getElem? hp)
end

/-- Texts as keys. -/
def strK {P : Program} {kt : TypeId} (hk : P.underlying kt = some .string) : MK P kt ByteArray where
  of := .string
  eq a b := a == b
  eq_iff a b := by
    constructor
    · intro h
      have e : a.data = b.data := by simpa using (show (a.data == b.data) = true from h)
      exact ByteArray.ext e
    · intro h; subst h; show (a.data == a.data) = true; simp
  check w em a := MapKept.run_checkKey (k := .string a) hk trivial em 9999
  find w a es hall := by
    rcases findNow_spec (d := .string) (k := .string a) trivial es 0 (fun x hx => by obtain ⟨b, hb⟩ := hall x hx; rw [hb]; trivial) with ⟨h1, h2⟩ | ⟨j, e, h1, h2, h3⟩
    · exact .inl ⟨MapKept.run_findKey hk h1, h2⟩
    · exact .inr ⟨j, e, by rw [MapKept.run_findKey hk h1, Nat.zero_add], h2, h3⟩
  inj a b h := by injection h
  stays w a := MapKept.run_keyThatStays (d := .string) (k := .string a) trivial
end Go.Proofs.YtpkkkhgmkndpdaaGreatDoor
namespace Go.Proofs.YtpkkkhgmkndpdaaGreatDoor
open Go Go.RowKit Go.MapKept
/-- A struct of a text and an int. -/
structure IdT (P : Program) (kt : TypeId) (f0 f1 : Field) : Prop where
  u : P.underlying kt = some (.struct #[f0, f1])
  n0 : f0.name ≠ "_"
  n1 : f1.name ≠ "_"
  t0 : P.underlying f0.type = some .string
  t1 : P.underlying f1.type = some (.int .i64)
  o0 : f0.offset = 0
  o1 : f1.offset = 1
  held : P.stoodInHeld kt = false
abbrev Idt := ByteArray × Int
def idV (a : Idt) : Value := .agg #[.string a.1, .int .i64 a.2]
section
variable {P : Program} {kt : TypeId} {f0 f1 : Field} (I : IdT P kt f0 f1)
include I
theorem id_p0 : P.plainKey f0.type = true := by unfold Program.plainKey; rw [I.t0]
theorem id_p1 : P.plainKey f1.type = true := by unfold Program.plainKey; rw [I.t1]
theorem id_check_n (w : World) (em : Bool) (a : Idt) (n : Nat) : (Instr.checkKey em (n + 1 + 1) kt (idV a)).run P w = .ok () w := by
  have q0 := run_part_plain w (id_p0 I) (xs := #[.string a.1, .int .i64 a.2]) (off := f0.offset) (v := .string a.1) (by rw [I.o0]; rfl)
  have q1 := run_part_plain w (id_p1 I) (xs := #[.string a.1, .int .i64 a.2]) (off := f1.offset) (v := .int .i64 a.2) (by rw [I.o1]; rfl)
  unfold Instr.checkKey idV
  simp only [Sem.run_bind, run_underlying I.u, Result.andThen_ok]
  rw [← Array.forIn_toList]
  simp [I.n0, I.n1, q0, q1, Instr.checkKey, run_underlying I.t0, run_underlying I.t1, Result.andThen]
theorem id_check (w : World) (em : Bool) (a : Idt) : (Instr.checkKey em 10000 kt (idV a)).run P w = .ok () w := id_check_n I w em a 9998
theorem id_equal_n (w : World) (a b : Idt) (n : Nat) : (Op.equalIn (n + 1 + 1) kt (idV a) (idV b)).run P w = .ok (a.1 == b.1 && a.2 == b.2) w := by
  have q0 := fun (x : ByteArray) (z : Int) => run_part_plain w (id_p0 I) (xs := #[.string x, .int .i64 z]) (off := f0.offset) (v := .string x) (by rw [I.o0]; rfl)
  have q1 := fun (x : ByteArray) (z : Int) => run_part_plain w (id_p1 I) (xs := #[.string x, .int .i64 z]) (off := f1.offset) (v := .int .i64 z) (by rw [I.o1]; rfl)
  have e0 := run_equalIn_string (P := P) w n f0.type a.1 b.1 I.t0
  have e1 := run_equalIn_int (P := P) w n f1.type .i64 .i64 a.2 b.2 I.t1
  have hf : P.fieldsOf kt = #[f0, f1] := by unfold Program.fieldsOf; rw [I.u]
  have hb : (a.1.toList == b.1.toList) = (a.1 == b.1) := (beq_toListBytes _ _).symm
  unfold idV
  rw [run_equalIn_agg w (n + 1) kt _ _ (by rw [hf]; exact I.u) I.held, hf]
  rw [hb] at e0
  simp only [Op.eqFields, if_pos I.n0, if_pos I.n1, Sem.run_bind, q0, e0, Result.andThen_ok]
  cases (a.1 == b.1)
  · simp
  · by_cases h9 : a.2 = b.2
    · rw [h9] at e1 ⊢
      simp [q1, e1]
    · simp [q1, e1, h9]
theorem id_equal (w : World) (a b : Idt) : (Op.equal kt (idV a) (idV b)).run P w = .ok (a.1 == b.1 && a.2 == b.2) w := id_equal_n I w a b 9998
omit I in
theorem id_eq_iff (a b : Idt) : (a.1 == b.1 && a.2 == b.2) = true ↔ a = b := by
  obtain ⟨a1, a2⟩ := a
  obtain ⟨b1, b2⟩ := b
  rw [Bool.and_eq_true]
  have e : ∀ x y : ByteArray, (x == y) = true ↔ x = y := bytes_beq
  rw [e]
  simp
omit I in
theorem id_inj (a b : Idt) (h : idV a = idV b) : a = b := by
  obtain ⟨a1, a2⟩ := a
  obtain ⟨b1, b2⟩ := b
  simp [idV] at h
  rw [h.1, h.2]
theorem id_find (w : World) (a : Idt) : ∀ (es : List MapEntry) (i : Nat), (∀ x ∈ es, ∃ b, x.key = idV b) →
    ((Instr.findAsking kt (idV a) es i).run P w = .ok none w ∧ ∀ x ∈ es, x.key ≠ idV a) ∨ ∃ (j : Nat) (e : MapEntry), (Instr.findAsking kt (idV a) es i).run P w = .ok (some (i + j, e.val)) w ∧ es[j]? = some e ∧ e.key = idV a
  | [], i, _ => .inl ⟨by simp [Instr.findAsking], by simp⟩
  | e :: es, i, hall => by
    obtain ⟨b, hb⟩ := hall e (by simp)
    have hr := id_equal I w a b
    rw [← hb] at hr
    cases h : (a.1 == b.1 && a.2 == b.2)
    · rw [h] at hr
      have hne : e.key ≠ idV a := fun h9 => by
        have := id_inj b a (hb.symm.trans h9)
        rw [this, (id_eq_iff a a).2 rfl] at h
        cases h
      rcases id_find w a es (i + 1) (fun y hy => hall y (by simp [hy])) with ⟨h1, h2⟩ | ⟨j, e', h1, h2, h3⟩
      · left
        refine ⟨by simp [Instr.findAsking, hr, h1], fun y hy => ?_⟩
        rcases List.mem_cons.1 hy with rfl | hy
        · exact hne
        · exact h2 y hy
      · right
        exact ⟨j + 1, e', by simp [Instr.findAsking, hr, h1, Nat.add_assoc, Nat.add_comm 1 j], by simpa using h2, h3⟩
    · rw [h] at hr
      right
      exact ⟨0, e, by simp [Instr.findAsking, hr], rfl, by rw [hb, (id_eq_iff a b).1 h]⟩
/-- Identities as keys. -/
def idK : MK P kt Idt where
  of := idV
  eq a b := a.1 == b.1 && a.2 == b.2
  eq_iff := id_eq_iff
  check := id_check I
  find w a es hall := by
    rw [run_findKey_eq w (by rw [I.u])]
    rcases id_find I w a es 0 hall with ⟨h1, h2⟩ | ⟨j, e, h1, h2, h3⟩
    · exact .inl ⟨h1, h2⟩
    · exact .inr ⟨j, e, by rw [h1, Nat.zero_add], h2, h3⟩
  inj := id_inj
  stays w a := by
    have hn : ∀ n, Instr.sameBits (n + 1) (idV a) (idV a) = true := fun n => by
      simp [Instr.sameBits, idV]
      exact (bytes_beq _ _).2 rfl
    have hs : Instr.sameBits 10000 (idV a) (idV a) = true := hn 9999
    simp [Instr.keyThatStays, hs]
end
end Go.Proofs.YtpkkkhgmkndpdaaGreatDoor
namespace Go.Proofs.YtpkkkhgmkndpdaaGreatDoor
open Go Go.RowKit Go.MapKept
/-- A struct of two texts. -/
structure TwT (P : Program) (kt : TypeId) (f0 f1 : Field) : Prop where
  u : P.underlying kt = some (.struct #[f0, f1])
  n0 : f0.name ≠ "_"
  n1 : f1.name ≠ "_"
  t0 : P.underlying f0.type = some .string
  t1 : P.underlying f1.type = some .string
  o0 : f0.offset = 0
  o1 : f1.offset = 1
  held : P.stoodInHeld kt = false
abbrev Twt := ByteArray × ByteArray
def twV (a : Twt) : Value := .agg #[.string a.1, .string a.2]
section
variable {P : Program} {kt : TypeId} {f0 f1 : Field} (I : TwT P kt f0 f1)
include I
theorem tw_p0 : P.plainKey f0.type = true := by unfold Program.plainKey; rw [I.t0]
theorem tw_p1 : P.plainKey f1.type = true := by unfold Program.plainKey; rw [I.t1]
theorem tw_check_n (w : World) (em : Bool) (a : Twt) (n : Nat) : (Instr.checkKey em (n + 1 + 1) kt (twV a)).run P w = .ok () w := by
  have q0 := run_part_plain w (tw_p0 I) (xs := #[.string a.1, .string a.2]) (off := f0.offset) (v := .string a.1) (by rw [I.o0]; rfl)
  have q1 := run_part_plain w (tw_p1 I) (xs := #[.string a.1, .string a.2]) (off := f1.offset) (v := .string a.2) (by rw [I.o1]; rfl)
  unfold Instr.checkKey twV
  simp only [Sem.run_bind, run_underlying I.u, Result.andThen_ok]
  rw [← Array.forIn_toList]
  simp [I.n0, I.n1, q0, q1, Instr.checkKey, run_underlying I.t0, run_underlying I.t1, Result.andThen]
theorem tw_check (w : World) (em : Bool) (a : Twt) : (Instr.checkKey em 10000 kt (twV a)).run P w = .ok () w := tw_check_n I w em a 9998
theorem tw_equal_n (w : World) (a b : Twt) (n : Nat) : (Op.equalIn (n + 1 + 1) kt (twV a) (twV b)).run P w = .ok (a.1 == b.1 && a.2 == b.2) w := by
  have q0 := fun (x : ByteArray) (z : ByteArray) => run_part_plain w (tw_p0 I) (xs := #[.string x, .string z]) (off := f0.offset) (v := .string x) (by rw [I.o0]; rfl)
  have q1 := fun (x : ByteArray) (z : ByteArray) => run_part_plain w (tw_p1 I) (xs := #[.string x, .string z]) (off := f1.offset) (v := .string z) (by rw [I.o1]; rfl)
  have e0 := run_equalIn_string (P := P) w n f0.type a.1 b.1 I.t0
  have e1 := run_equalIn_string (P := P) w n f1.type a.2 b.2 I.t1
  have hf : P.fieldsOf kt = #[f0, f1] := by unfold Program.fieldsOf; rw [I.u]
  have hb : ∀ x y : ByteArray, (x.toList == y.toList) = (x == y) := fun x y => (beq_toListBytes _ _).symm
  unfold twV
  rw [run_equalIn_agg w (n + 1) kt _ _ (by rw [hf]; exact I.u) I.held, hf]
  rw [hb] at e0 e1
  simp only [Op.eqFields, if_pos I.n0, if_pos I.n1, Sem.run_bind, q0, e0, Result.andThen_ok]
  cases (a.1 == b.1)
  · simp
  · cases h9 : (a.2 == b.2)
    · rw [h9] at e1
      simp [q1, e1]
    · rw [h9] at e1
      simp [q1, e1]
theorem tw_equal (w : World) (a b : Twt) : (Op.equal kt (twV a) (twV b)).run P w = .ok (a.1 == b.1 && a.2 == b.2) w := tw_equal_n I w a b 9998
omit I in
theorem tw_eq_iff (a b : Twt) : (a.1 == b.1 && a.2 == b.2) = true ↔ a = b := by
  obtain ⟨a1, a2⟩ := a
  obtain ⟨b1, b2⟩ := b
  rw [Bool.and_eq_true]
  have e : ∀ x y : ByteArray, (x == y) = true ↔ x = y := bytes_beq
  rw [e, e]
  simp
omit I in
theorem tw_inj (a b : Twt) (h : twV a = twV b) : a = b := by
  obtain ⟨a1, a2⟩ := a
  obtain ⟨b1, b2⟩ := b
  simp [twV] at h
  rw [h.1, h.2]
theorem tw_find (w : World) (a : Twt) : ∀ (es : List MapEntry) (i : Nat), (∀ x ∈ es, ∃ b, x.key = twV b) →
    ((Instr.findAsking kt (twV a) es i).run P w = .ok none w ∧ ∀ x ∈ es, x.key ≠ twV a) ∨ ∃ (j : Nat) (e : MapEntry), (Instr.findAsking kt (twV a) es i).run P w = .ok (some (i + j, e.val)) w ∧ es[j]? = some e ∧ e.key = twV a
  | [], i, _ => .inl ⟨by simp [Instr.findAsking], by simp⟩
  | e :: es, i, hall => by
    obtain ⟨b, hb⟩ := hall e (by simp)
    have hr := tw_equal I w a b
    rw [← hb] at hr
    cases h : (a.1 == b.1 && a.2 == b.2)
    · rw [h] at hr
      have hne : e.key ≠ twV a := fun h9 => by
        have := tw_inj b a (hb.symm.trans h9)
        rw [this, (tw_eq_iff a a).2 rfl] at h
        cases h
      rcases tw_find w a es (i + 1) (fun y hy => hall y (by simp [hy])) with ⟨h1, h2⟩ | ⟨j, e', h1, h2, h3⟩
      · left
        refine ⟨by simp [Instr.findAsking, hr, h1], fun y hy => ?_⟩
        rcases List.mem_cons.1 hy with rfl | hy
        · exact hne
        · exact h2 y hy
      · right
        exact ⟨j + 1, e', by simp [Instr.findAsking, hr, h1, Nat.add_assoc, Nat.add_comm 1 j], by simpa using h2, h3⟩
    · rw [h] at hr
      right
      exact ⟨0, e, by simp [Instr.findAsking, hr], rfl, by rw [hb, (tw_eq_iff a b).1 h]⟩
/-- Two texts as keys. -/
def twK : MK P kt Twt where
  of := twV
  eq a b := a.1 == b.1 && a.2 == b.2
  eq_iff := tw_eq_iff
  check := tw_check I
  find w a es hall := by
    rw [run_findKey_eq w (by rw [I.u])]
    rcases tw_find I w a es 0 hall with ⟨h1, h2⟩ | ⟨j, e, h1, h2, h3⟩
    · exact .inl ⟨h1, h2⟩
    · exact .inr ⟨j, e, by rw [h1, Nat.zero_add], h2, h3⟩
  inj := tw_inj
  stays w a := by
    have hn : ∀ n, Instr.sameBits (n + 1) (twV a) (twV a) = true := fun n => by
      have h9 : ∀ x : ByteArray, (x == x) = true := fun x => (bytes_beq _ _).2 rfl
      simp [Instr.sameBits, twV, h9]
    have hs : Instr.sameBits 10000 (twV a) (twV a) = true := hn 9999
    simp [Instr.keyThatStays, hs]
end
end Go.Proofs.YtpkkkhgmkndpdaaGreatDoor
