/-
  What is proved here: maps of the call's own as plain lists of keys and values, in the order in which the keys came: looked up, written, counted, gone through. No program is in sight. No condition.
-/
import Derived.Test.YtdkgphambjnbiaaDoorBase
import Derived.MapKept
import Derived.Maps.RangeRun
import Derived.Carry
namespace Go.Proofs.YtdkgphambjnbiaaDoor
open Go Go.RowKit Go.MapKept

/-- How keys and values lie: a key is what mk makes of it, and finding goes by sameness. -/
structure MK (P : Program) (kt : TypeId) (κ : Type) where
  of : κ → Value
  eq : κ → κ → Bool
  eq_iff : ∀ a b, eq a b = true ↔ a = b
  check : ∀ (w : World) (em : Bool) (a : κ), (Instr.checkKey em 10000 kt (of a)).run P w = .ok () w
  find : ∀ (w : World) (a : κ) (es : List MapEntry), (∀ x ∈ es, ∃ b, x.key = of b) →
    ((Instr.findKey kt (of a) es).run P w = .ok none w ∧ ∀ x ∈ es, x.key ≠ of a) ∨ ∃ (j : Nat) (e : MapEntry), (Instr.findKey kt (of a) es).run P w = .ok (some (j, e.val)) w ∧ es[j]? = some e ∧ e.key = of a
  inj : ∀ a b, of a = of b → a = b
  stays : ∀ (w : World) (a : κ), (Instr.keyThatStays (of a) (of a)).run P w = .ok (of a) w

section
variable {κ β : Type}
def getM (eq : κ → κ → Bool) (l : List (κ × β)) (k : κ) : Option β := (l.find? (fun p => eq k p.1)).map (·.2)
def putM (eq : κ → κ → Bool) (l : List (κ × β)) (k : κ) (v : β) : List (κ × β) := if l.any (fun p => eq k p.1) then l.map (fun p => if eq k p.1 then (p.1, v) else p) else l ++ [(k, v)]
end

/-- Block b is a map; it holds l, in the order in which the keys came. -/
def Mp {P : Program} {kt : TypeId} {κ β : Type} (K : MK P kt κ) (V : β → Value) (w : World) (b : Nat) (l : List (κ × β)) : Prop :=
  ∃ es clock, w.heap[b]? = some (.map es clock) ∧ Stamped es clock ∧ es.toList.map (fun x => (x.key, x.val)) = l.map (fun p => (K.of p.1, V p.2))

section
variable {P : Program} {kt : TypeId} {κ β : Type} {K : MK P kt κ} {V : β → Value} {w w' : World} {b : Nat} {l : List (κ × β)}
theorem Mp.lt (h : Mp K V w b l) : b < w.heap.size := by obtain ⟨es, c, hb, _⟩ := h; exact (Array.getElem?_eq_some_iff.1 hb).1
theorem Mp.keep {ok : Nat → Prop} (h : Mp K V w b l) (hk : Keeps ok w w') (ho : ok b) : Mp K V w' b l := by
  obtain ⟨es, c, hb, hs, he⟩ := h
  exact ⟨es, c, hk.blk hb ho, hs, he⟩
theorem Mp.ext (h : Mp K V w b l) (hk : Ext w w') : Mp K V w' b l := h.keep hk trivial
theorem Mp.new (w : World) : Mp K V (w.alloc (.map #[] 0)) w.heap.size ([] : List (κ × β)) := ⟨#[], 0, blk_new w _, stamped_empty 0, rfl⟩
theorem Mp.ne_cells (h : Mp K V w b l) {g : Nat} {C : Array Value} {t : TypeId} {fr : Nat × Nat} (hg : w.heap[g]? = some (.cells C t fr)) : b ≠ g := by
  obtain ⟨es, c, hb, _⟩ := h
  rintro rfl
  rw [hb] at hg; cases hg
theorem Mp.keys (h : Mp K V w b l) : (l.map (·.1)).Nodup := by
  obtain ⟨es, c, _, hs, he⟩ := h
  have h2 := hs.2.2
  have e2 : es.toList.map (·.key) = l.map (fun p => K.of p.1) := by
    have := congrArg (List.map Prod.fst) he
    simpa [List.map_map, Function.comp_def] using this
  rw [e2] at h2
  have e3 : l.map (fun p => K.of p.1) = (l.map (·.1)).map K.of := by simp [List.map_map, Function.comp_def]
  rw [e3, List.Nodup, List.pairwise_map] at h2
  exact h2.imp (fun h e => h (by rw [e]))

theorem mp_key_at {es : List MapEntry} (he : es.map (fun x => (x.key, x.val)) = l.map (fun p => (K.of p.1, V p.2))) {j : Nat} {e : MapEntry} (hj : es[j]? = some e) : ∃ p, l[j]? = some p ∧ e.key = K.of p.1 ∧ e.val = V p.2 := by
  have := congrArg (fun l => l[j]?) he
  simp only [List.getElem?_map, hj, Option.map_some] at this
  cases hp : l[j]? with
  | none => rw [hp] at this; cases this
  | some p =>
    rw [hp] at this
    simp only [Option.map_some, Option.some.injEq, Prod.mk.injEq] at this
    exact ⟨p, rfl, this.1, this.2⟩
theorem mp_keys_all {es : List MapEntry} (he : es.map (fun x => (x.key, x.val)) = l.map (fun p => (K.of p.1, V p.2))) : ∀ x ∈ es, ∃ c, x.key = K.of c := by
  intro x hx
  obtain ⟨j, hj, rfl⟩ := List.mem_iff_getElem.1 hx
  obtain ⟨p, _, h, _⟩ := mp_key_at he (List.getElem?_eq_getElem hj)
  exact ⟨p.1, h⟩
theorem eq_false {a c : κ} (h : a ≠ c) : K.eq a c = false := by
  rw [Bool.eq_false_iff]; intro e; exact h ((K.eq_iff a c).1 e)
theorem eq_self (a : κ) : K.eq a a = true := (K.eq_iff a a).2 rfl

/-- The entry at a key, or none. -/
theorem Mp.at_ (h : Mp K V w b l) (k : κ) : ∃ es clock, w.heap[b]? = some (.map es clock) ∧ Stamped es clock ∧ es.toList.map (fun x => (x.key, x.val)) = l.map (fun p => (K.of p.1, V p.2)) ∧
    ((getM K.eq l k = none ∧ l.any (fun p => K.eq k p.1) = false ∧ (∀ w, (Instr.findKey kt (K.of k) es.toList).run P w = .ok none w) ∧ ∀ x ∈ es.toList, x.key ≠ K.of k) ∨
     ∃ (j : Nat) (v : β), getM K.eq l k = some v ∧ l[j]? = some (k, v) ∧ (∀ w, (Instr.findKey kt (K.of k) es.toList).run P w = .ok (some (j, V v)) w) ∧ ∃ e, es.toList[j]? = some e ∧ e.key = K.of k) := by
  have hnd := h.keys
  obtain ⟨es, clock, hb, hs, he⟩ := h
  refine ⟨es, clock, hb, hs, he, ?_⟩
  have hall := mp_keys_all he
  by_cases hex : ∃ x ∈ es.toList, x.key = K.of k
  · right
    obtain ⟨x, hx, hxk⟩ := hex
    rcases K.find w k es.toList hall with ⟨_, h2⟩ | ⟨j, e, h1, h2, h3⟩
    · exact absurd hxk (h2 x hx)
    · obtain ⟨p, hp, hpk, hpv⟩ := mp_key_at he h2
      have hk : p.1 = k := K.inj _ _ (hpk.symm.trans h3)
      refine ⟨j, p.2, ?_, by rw [hp, ← hk], fun w' => ?_, e, h2, h3⟩
      · unfold getM
        have hf : l.find? (fun q => K.eq k q.1) = some p := by
          rw [List.find?_eq_some_iff_getElem]
          refine ⟨by rw [hk]; exact eq_self k, j, (List.getElem?_eq_some_iff.1 hp).1, (List.getElem?_eq_some_iff.1 hp).2, fun i hi => ?_⟩
          have hj : j < l.length := (List.getElem?_eq_some_iff.1 hp).1
          have hne : l[i].1 ≠ p.1 := by
            have hpw := (List.pairwise_iff_getElem.1 hnd) i j (by simp; omega) (by simp; omega) hi
            simp only [List.getElem_map, (List.getElem?_eq_some_iff.1 hp).2] at hpw
            exact hpw
          rw [eq_false (K := K) (fun e => hne (by rw [hk, e]))]; rfl
        rw [hf]; rfl
      · rcases K.find w' k es.toList hall with ⟨_, h2'⟩ | ⟨j', e', h1', h2', h3'⟩
        · exact absurd h3 (h2' e (List.mem_of_getElem? h2))
        · have hkn := hs.2.2
          have hjj : j' = j := by
            have hl1 : j < es.toList.length := (List.getElem?_eq_some_iff.1 h2).1
            have hl2 : j' < es.toList.length := (List.getElem?_eq_some_iff.1 h2').1
            have hn := List.pairwise_iff_getElem.1 hkn
            rcases Nat.lt_trichotomy j' j with h | h | h
            · have := hn j' j (by simpa using hl2) (by simpa using hl1) h
              simp only [List.getElem_map] at this
              exact absurd ((by rw [(List.getElem?_eq_some_iff.1 h2').2, h3', (List.getElem?_eq_some_iff.1 h2).2, h3])) this
            · exact h
            · have := hn j j' (by simpa using hl1) (by simpa using hl2) h
              simp only [List.getElem_map] at this
              exact absurd ((by rw [(List.getElem?_eq_some_iff.1 h2').2, h3', (List.getElem?_eq_some_iff.1 h2).2, h3])) this
          subst hjj
          rw [h2] at h2'
          obtain rfl := Option.some.inj h2'
          rw [h1', hpv]
  · left
    have hno : ∀ x ∈ es.toList, x.key ≠ K.of k := fun x hx e => hex ⟨x, hx, e⟩
    have hany : l.any (fun p => K.eq k p.1) = false := by
      rw [Bool.eq_false_iff]
      intro ha
      obtain ⟨p, hp, hpe⟩ := List.any_eq_true.1 ha
      have hpk := (K.eq_iff _ _).1 hpe
      obtain ⟨j, hj, hjp⟩ := List.mem_iff_getElem.1 hp
      have hlen : es.toList.length = l.length := by have := congrArg List.length he; simpa using this
      have hje : j < es.toList.length := by omega
      obtain ⟨q, hq, hqk, _⟩ := mp_key_at he (List.getElem?_eq_getElem hje)
      rw [List.getElem?_eq_getElem hj] at hq
      obtain rfl := Option.some.inj hq
      exact hno _ (List.getElem_mem hje) (by rw [hqk, hjp, ← hpk])
    refine ⟨?_, hany, fun w' => ?_, hno⟩
    · unfold getM
      have : l.find? (fun q => K.eq k q.1) = none := by
        rw [List.find?_eq_none]
        intro x hx
        have := List.any_eq_false.1 hany x hx
        simpa using this
      rw [this]; rfl
    · rcases K.find w' k es.toList hall with ⟨h1, _⟩ | ⟨j, e, _, h2, h3⟩
      · exact h1
      · exact absurd h3 (hno e (List.mem_of_getElem? h2))

theorem Mp.look (h : Mp K V w b l) {t et : TypeId} (ht : P.underlying t = some (.map kt et)) {z : Value} (hz : (zeroValue et).run P w = .ok z w) (k : κ) (c : Bool) :
    (Instr.lookup t (.map (some b)) (K.of k) c).run P w = .ok (if c then .tuple #[(match getM K.eq l k with | some v => V v | none => z), .bool (getM K.eq l k).isSome] else (match getM K.eq l k with | some v => V v | none => z)) w := by
  obtain ⟨es, clock, hb, hs, he, hor⟩ := h.at_ k
  rcases hor with ⟨hg, _, hf, _⟩ | ⟨j, v, hg, _, hf, _⟩
  · simp [Instr.lookup, run_underlying ht, MapKept.run_getObj_map hb, K.check, hf, hz, hg, Result.andThen]
  · simp [Instr.lookup, run_underlying ht, MapKept.run_getObj_map hb, K.check, hf, hg, Result.andThen]

theorem Mp.put (h : Mp K V w b l) {t et : TypeId} (ht : P.underlying t = some (.map kt et)) (k : κ) (v : β) :
    ∃ w', (Instr.mapUpdate t (.map (some b)) (K.of k) (V v)).run P w = .ok () w' ∧ Mp K V w' b (putM K.eq l k v) ∧ Keeps (fun i => i ≠ b) w w' ∧ w'.heap.size = w.heap.size := by
  obtain ⟨es, clock, hb, hs, he, hor⟩ := h.at_ k
  have hkeep : ∀ o, Keeps (fun i => i ≠ b) w { w with heap := w.heap.setIfInBounds b o } := fun o =>
    ⟨rfl, rfl, rfl, by simp, fun i _ hne => (heap_set hb).2 i hne⟩
  rcases hor with ⟨_, hany, hf, hno⟩ | ⟨j, v0, _, hlj, hf, e, hej, hek⟩
  · refine ⟨{ w with heap := w.heap.setIfInBounds b (.map (es.push { key := K.of k, val := V v, born := clock }) (clock + 1)) }, ?_, ⟨_, _, (heap_set hb).1, stamped_push hs hno, ?_⟩, hkeep _, by simp⟩
    · simp [Instr.mapUpdate, run_underlying ht, MapKept.run_getObj_map hb, K.check, hf, MapKept.run_setObj_map _ hb, Result.andThen]
    · unfold putM
      rw [hany]
      simp [he]
  · have hka : (es[j]?).map (·.key) = some (K.of k) := by
      have : es[j]? = some e := by rw [← Array.getElem?_toList]; exact hej
      rw [this, Option.map_some, hek]
    refine ⟨{ w with heap := w.heap.setIfInBounds b (.map (es.modify j fun e => { e with key := K.of k, val := V v }) clock) }, ?_, ⟨_, _, (heap_set hb).1, ?_, ?_⟩, hkeep _, by simp⟩
    · simp [Instr.mapUpdate, run_underlying ht, MapKept.run_getObj_map hb, K.check, hf, MapKept.run_setObj_map _ hb, Result.andThen, hka, K.stays]
    · exact stamped_modify hs _ _ (fun _ _ => rfl) (fun e' _ he' => by
        have : es[j]? = some e := by rw [← Array.getElem?_toList]; exact hej
        rw [this] at he'
        obtain rfl := Option.some.inj he'
        exact hek.symm)
    · have hnd := h.keys
      have hany : l.any (fun p => K.eq k p.1) = true := List.any_eq_true.2 ⟨_, List.mem_of_getElem? hlj, eq_self k⟩
      unfold putM
      rw [if_pos hany]
      apply List.ext_getElem?
      intro i
      have hi := congrArg (fun l => l[i]?) he
      simp only [List.getElem?_map] at hi
      simp only [List.getElem?_map, Array.getElem?_toList, Array.getElem?_modify]
      rw [Array.getElem?_toList] at hi
      by_cases hij : j = i
      · subst hij
        rw [hlj]
        have : es[j]? = some e := by rw [← Array.getElem?_toList]; exact hej
        rw [this, if_pos rfl]
        simp [eq_self]
      · rw [if_neg hij, hi]
        cases hp : l[i]? with
        | none => rfl
        | some p =>
          have hne : K.eq k p.1 = false := eq_false (K := K) (fun e => by
            have h1 : i < l.length := (List.getElem?_eq_some_iff.1 hp).1
            have h2 : j < l.length := (List.getElem?_eq_some_iff.1 hlj).1
            have hn := List.pairwise_iff_getElem.1 hnd
            have e1 : l[i].1 = k := by rw [(List.getElem?_eq_some_iff.1 hp).2, e]
            have e2 : l[j].1 = k := by rw [(List.getElem?_eq_some_iff.1 hlj).2]
            rcases Nat.lt_or_gt_of_ne hij with h' | h'
            · have := hn j i (by simpa using h2) (by simpa using h1) h'
              simp only [List.getElem_map] at this
              exact this (by rw [e1, e2])
            · have := hn i j (by simpa using h1) (by simpa using h2) h'
              simp only [List.getElem_map] at this
              exact this (by rw [e1, e2]))
          simp [hne]

theorem Mp.len (h : Mp K V w b l) {t et : TypeId} (ht : P.underlying t = some (.map kt et)) (ty : TypeId) : (Builtin.len_ #[t] ty #[.map (some b)]).run P w = .ok (.int .i64 l.length) w := by
  obtain ⟨es, c, hb, hs, he⟩ := h
  have hl : es.size = l.length := by have := congrArg List.length he; simpa using this
  simp [Builtin.len_, run_underlying ht, MapKept.run_getObj_map hb, Result.andThen, hl, goInt]

/-- Block r goes through the map at b; the keys ds are done. -/
def Iter (K : MK P kt κ) (V : β → Value) (w : World) (r b : Nat) (l : List (κ × β)) (ds : List κ) : Prop :=
  ∃ es clock since c0 seen, w.heap[b]? = some (.map es clock) ∧ Stamped es clock ∧ es.toList.map (fun x => (x.key, x.val)) = l.map (fun p => (K.of p.1, V p.2)) ∧
    w.heap[r]? = some (.mapIter (some b) since seen c0) ∧ (∀ x ∈ es.toList, x.born < since) ∧ since ≤ c0 ∧ c0 = clock ∧ (∀ x ∈ es.toList, seen.contains x.born = true ↔ ∃ d ∈ ds, x.key = K.of d) ∧ ds.Nodup ∧ ∀ d ∈ ds, d ∈ l.map (·.1)
theorem Iter.mp {r : Nat} {ds : List κ} (h : Iter K V w r b l ds) : Mp K V w b l := by
  obtain ⟨es, clock, since, c0, seen, hb, hs, he, _⟩ := h
  exact ⟨es, clock, hb, hs, he⟩
theorem Iter.keep {r : Nat} {ds : List κ} {ok : Nat → Prop} (h : Iter K V w r b l ds) (hk : Keeps ok w w') (ho : ok b) (hr : ok r) : Iter K V w' r b l ds := by
  obtain ⟨es, clock, since, c0, seen, hb, hs, he, hi, rest⟩ := h
  exact ⟨es, clock, since, c0, seen, hk.blk hb ho, hs, he, hk.blk hi hr, rest⟩
theorem Mp.range (h : Mp K V w b l) {t et : TypeId} (ht : P.underlying t = some (.map kt et)) :
    ∃ w', (Instr.range t (.map (some b))).run P w = .ok (.pointer (some ⟨w.heap.size, 0, none⟩)) w' ∧ Iter K V w' w.heap.size b l [] ∧ Ext w w' := by
  obtain ⟨es, clock, hb, hs, he⟩ := h
  refine ⟨w.alloc (.mapIter (some b) clock #[] clock), ?_, ⟨es, clock, clock, clock, #[], blk_old hb _, hs, he, blk_new _ _, hs.1, Nat.le_refl _, rfl, by simp, by simp, by simp⟩, (Keeps.refl _ _).alloc _⟩
  simp [Instr.range, run_underlying ht, MapKept.run_getObj_map hb, Result.andThen, newObj, Sem.run]
theorem setBlock_keeps {o o' : Obj} {r : Nat} (hr : w.heap[r]? = some o) : Keeps (fun i => i ≠ r) w (Go.ChangeMaps.setBlock w r o') :=
  ⟨rfl, rfl, rfl, by simp [Go.ChangeMaps.setBlock], fun i _ hne => (heap_set hr).2 i hne⟩
theorem Iter.next {r : Nat} {ds : List κ} (h : Iter K V w r b l ds) (ty : TypeId) :
    ((∀ p ∈ l, p.1 ∈ ds) ∧ (Instr.next (.pointer (some ⟨r, 0, none⟩)) false ty).run P w = .ok (.tuple #[.bool false]) w) ∨
    ∃ p ∈ l, p.1 ∉ ds ∧ ∃ w', (Instr.next (.pointer (some ⟨r, 0, none⟩)) false ty).run P w = .ok (.tuple #[.bool true, K.of p.1, V p.2]) w' ∧ (Instr.entry (.pointer (some ⟨r, 0, none⟩))).run P w' = .ok (.tuple #[K.of p.1, V p.2]) w' ∧ Iter K V w' r b l (ds ++ [p.1]) ∧ Keeps (fun i => i ≠ r) w w' := by
  obtain ⟨es, clock, since, c0, seen, hb, hs, he, hr, hold, hsc, hcc, hseen, hnd, hsub⟩ := h
  have hrb : b ≠ r := by rintro rfl; rw [hb] at hr; cases hr
  have hlen : es.toList.length = l.length := by have := congrArg List.length he; simpa using this
  rcases run_next_at (P := P) w ty r b since c0 seen es clock hr hb hold hsc with ⟨h0, hrun⟩ | ⟨e, he0, w1, hw1, hrun⟩
  · left
    refine ⟨fun p hp => ?_, hrun⟩
    obtain ⟨j, hj, hjp⟩ := List.mem_iff_getElem.1 hp
    have hje : j < es.toList.length := by omega
    obtain ⟨q, hq, hqk, _⟩ := mp_key_at he (List.getElem?_eq_getElem hje)
    rw [List.getElem?_eq_getElem hj] at hq
    obtain rfl := Option.some.inj hq
    have hin : seen.contains (es.toList[j]).born = true := by
      cases hc : seen.contains (es.toList[j]).born with
      | true => rfl
      | false =>
        have hmem : es.toList[j] ∈ (leftOf es seen).toList := by
          unfold leftOf
          simp only [Array.toList_filter, List.mem_filter]
          exact ⟨List.getElem_mem hje, by rw [hc]; rfl⟩
        have : (leftOf es seen).toList.length = 0 := by simpa using h0
        rw [List.length_eq_zero_iff.1 this] at hmem
        cases hmem
    obtain ⟨d, hd, hdk⟩ := (hseen _ (List.getElem_mem hje)).1 hin
    have : l[j].1 = d := K.inj _ _ (hqk.symm.trans hdk)
    rw [← hjp, this]; exact hd
  · right
    have hel : e ∈ es.toList ∧ seen.contains e.born = false := by
      unfold leftOf at he0
      simp only [Array.toList_filter, List.mem_filter, Bool.not_eq_true'] at he0
      exact he0
    obtain ⟨j, hj, hje⟩ := List.mem_iff_getElem.1 hel.1
    obtain ⟨p, hp, hpk, hpv⟩ := mp_key_at he (by rw [List.getElem?_eq_getElem hj, hje] : es.toList[j]? = some e)
    have hpd : p.1 ∉ ds := fun hd => by
      have := (hseen e hel.1).2 ⟨p.1, hd, hpk⟩
      rw [hel.2] at this; cases this
    have hr1 : w1.heap[r]? = some (.mapIter (some b) since seen c0) := by rcases hw1 with rfl | rfl <;> exact hr
    have hb1 : w1.heap[b]? = some (.map es clock) := by rcases hw1 with rfl | rfl <;> exact hb
    have hk1 : Keeps (fun i => i ≠ r) w w1 := by
      rcases hw1 with rfl | rfl
      · exact Keeps.refl _ _
      · exact (Keeps.refl _ _).drew
    have hr2 : (Go.ChangeMaps.setBlock w1 r (.mapIter (some b) since (seen.push e.born) clock)).heap[r]? = some (.mapIter (some b) since (seen.push e.born) clock) := (heap_set hr1).1
    have hb2 : (Go.ChangeMaps.setBlock w1 r (.mapIter (some b) since (seen.push e.born) clock)).heap[b]? = some (.map es clock) := ((heap_set hr1).2 b hrb).trans hb1
    refine ⟨p, List.mem_of_getElem? hp, hpd, _, by rw [hrun, hpk, hpv], ?_, ⟨es, clock, since, clock, seen.push e.born, hb2, hs, he, hr2, hold, by omega, rfl, fun x hx => ?_, ?_, ?_⟩, hk1.trans (setBlock_keeps hr1)⟩
    · rw [run_entry_at _ r b since seen es clock e hr2 hb2 hel.1 hs.2.1, hpk, hpv]
    · simp only [Array.contains_push, Bool.or_eq_true, List.mem_append, List.mem_singleton]
      constructor
      · rintro (h1 | h1)
        · obtain ⟨d, hd, hdk⟩ := (hseen x hx).1 h1
          exact ⟨d, .inl hd, hdk⟩
        · have hxe : x = e := by
            have h1' : x.born = e.born := by simpa using h1
            have hn := hs.2.1
            obtain ⟨i, hi, hie⟩ := List.mem_iff_getElem.1 hx
            have hpw := List.pairwise_iff_getElem.1 hn
            rcases Nat.lt_trichotomy i j with h' | h' | h'
            · have := hpw i j (by simpa using hi) (by simpa using hj) h'
              simp only [List.getElem_map] at this
              exact absurd (by rw [hie, hje, h1']) this
            · subst h'; rw [← hie, ← hje]
            · have := hpw j i (by simpa using hj) (by simpa using hi) h'
              simp only [List.getElem_map] at this
              exact absurd (by rw [hie, hje, h1']) this
          exact ⟨p.1, .inr rfl, by rw [hxe, hpk]⟩
      · rintro ⟨d, hd | rfl, hdk⟩
        · exact .inl ((hseen x hx).2 ⟨d, hd, hdk⟩)
        · right
          have hn := hs.2.2
          obtain ⟨i, hi, hie⟩ := List.mem_iff_getElem.1 hx
          have hpw := List.pairwise_iff_getElem.1 hn
          rcases Nat.lt_trichotomy i j with h' | h' | h'
          · have := hpw i j (by simpa using hi) (by simpa using hj) h'
            simp only [List.getElem_map] at this
            exact absurd (by rw [hie, hje, hdk, hpk]) this
          · subst h'; rw [← hie, ← hje]; simp
          · have := hpw j i (by simpa using hj) (by simpa using hi) h'
            simp only [List.getElem_map] at this
            exact absurd (by rw [hie, hje, hdk, hpk]) this
    · rw [List.nodup_append]
      exact ⟨hnd, by simp, fun a ha c hc e => hpd (by simp at hc; rw [← hc, ← e]; exact ha)⟩
    · intro d hd
      rcases List.mem_append.1 hd with hd | hd
      · exact hsub d hd
      · simp at hd; subst hd; exact List.mem_map_of_mem (List.mem_of_getElem? hp)
end

/-- Texts as keys. -/
def strK {P : Program} {kt : TypeId} (hk : P.underlying kt = some .string) : MK P kt ByteArray where
  of := .string
  eq a b := a == b
  eq_iff a b := by
    constructor
    · intro h
      have e : a.data = b.data := by simpa using (show (a.data == b.data) = true from h)
      exact ByteArray.ext e
    · intro h; subst h; show (a.data == a.data) = true; simp
  check w em a := MapKept.run_checkKey (k := .string a) hk trivial em 9999
  find w a es hall := by
    rcases findNow_spec (d := .string) (k := .string a) trivial es 0 (fun x hx => by obtain ⟨b, hb⟩ := hall x hx; rw [hb]; trivial) with ⟨h1, h2⟩ | ⟨j, e, h1, h2, h3⟩
    · exact .inl ⟨MapKept.run_findKey hk h1, h2⟩
    · exact .inr ⟨j, e, by rw [MapKept.run_findKey hk h1, Nat.zero_add], h2, h3⟩
  inj a b h := by injection h
  stays w a := MapKept.run_keyThatStays (d := .string) (k := .string a) trivial
end Go.Proofs.YtdkgphambjnbiaaDoor
