/-
  What is proved here: objects in memory with their footprints (a list of blocks, each once): what one is, how it stays; maps whose values are such objects: looked up, one of them turned, one put in. No program is in sight. No condition.
  slices of the call's own as objects with a footprint: of elements that lead nowhere, and of those that lead to blocks of their own; behind an append. No program is in sight. No condition.
  a block of cells with an object that hangs on it, as an object; two objects beside each other, as one. No program is in sight. No condition.
  an entry of a map that is counted on (m[k]++): the entry is made or found, and then stored to. No program is in sight. No condition.
  one of several objects in sight, and the way back when it has turned. No program is in sight. No condition.
  an object of a map put anew under its key, whoever put it; an entry of a map of rows that is appended to (m[k] = append(m[k], ..)). No program is in sight. No condition.
-/
import Derived.Test.YtpkkkhgmkndpdaaGreatDoorMaps
namespace Go.Proofs.YtpkkkhgmkndpdaaGreatDoor
open Go Go.RowKit Go.MapKept

theorem meet_ {G T : Prop} (f : G → T) (g : G) : T := f g
/-- An object: what it holds (α), known by a handle (η); it reads nothing outside its footprint. -/
structure Ob (η α : Type) where
  rep : World → η → List Nat → α → Prop
  lt : ∀ {w : World} {h : η} {fp : List Nat} {a : α}, rep w h fp a → ∀ g ∈ fp, g < w.heap.size
  nd : ∀ {w : World} {h : η} {fp : List Nat} {a : α}, rep w h fp a → fp.Nodup
  keep : ∀ {w w' : World} {h : η} {fp : List Nat} {a : α}, rep w h fp a → Keeps (fun g => g ∈ fp) w w' → rep w' h fp a
theorem Ob.ext {η α : Type} {O : Ob η α} {w w' : World} {h : η} {fp : List Nat} {a : α} (hr : O.rep w h fp a) (hx : Ext w w') : O.rep w' h fp a := O.keep hr (hx.keeps _)
/-- What an object has turned into: nothing else was touched; its footprint grew by new blocks alone. -/
structure Turned (fp fp' : List Nat) (w w' : World) : Prop where
  keeps : Keeps (fun g => g ∉ fp) w w'
  grew : ∀ g ∈ fp', g ∈ fp ∨ w.heap.size ≤ g
theorem Turned.refl (fp : List Nat) (w : World) : Turned fp fp w w := ⟨Keeps.refl _ _, fun _ h => .inl h⟩
theorem Turned.of_ext {fp : List Nat} {w w' : World} (h : Ext w w') : Turned fp fp w w' := ⟨h.keeps _, fun _ h => .inl h⟩
theorem Turned.trans {fp fp' fp'' : List Nat} {a b c : World} (h : Turned fp fp' a b) (k : Turned fp' fp'' b c) : Turned fp fp'' a c :=
  ⟨Keeps.then_ h.keeps k.keeps (fun i hi hn hm => by rcases h.grew i hm with h1 | h1; exact hn h1; omega), fun g hg => by
    rcases k.grew g hg with h1 | h1
    · exact h.grew g h1
    · exact .inr (Nat.le_trans h.keeps.size h1)⟩
theorem Turned.wide {fp fp' f : List Nat} {w w' : World} (h : Turned fp fp' w w') (hs : ∀ g ∈ fp, g ∈ f) : Keeps (fun g => g ∉ f) w w' := h.keeps.mono fun k _ hn hm => hn (hs k hm)
/-- What lies apart stays. -/
theorem Ob.apart {η α : Type} {O : Ob η α} {w w' : World} {h : η} {fp f f' : List Nat} {a : α} (hr : O.rep w h fp a) (ht : Turned f f' w w') (hd : ∀ g ∈ fp, g ∉ f) : O.rep w' h fp a :=
  O.keep hr (ht.keeps.mono fun k _ hk => hd k hk)

section
variable {P : Program} {kt : TypeId} {κ η α : Type}
/-- Block m is a map whose values are objects. -/
def MapOf (K : MK P kt κ) (V : η → Value) (O : Ob η α) (w : World) (m : Nat) (fp : List Nat) (L : List (κ × α)) : Prop :=
  ∃ es : List (κ × η × List Nat × α), Mp K V w m (es.map fun e => (e.1, e.2.1)) ∧ L = es.map (fun e => (e.1, e.2.2.2)) ∧ (∀ e ∈ es, O.rep w e.2.1 e.2.2.1 e.2.2.2) ∧ fp = m :: es.flatMap (fun e => e.2.2.1) ∧ fp.Nodup
variable {K : MK P kt κ} {V : η → Value} {O : Ob η α} {w w' : World} {m : Nat} {fp : List Nat} {L : List (κ × α)}
theorem MapOf.lt (h : MapOf K V O w m fp L) : ∀ g ∈ fp, g < w.heap.size := by
  obtain ⟨es, h1, _, h3, rfl, _⟩ := h
  intro g hg
  rcases List.mem_cons.1 hg with rfl | hg
  · exact h1.lt
  · obtain ⟨e, he, hge⟩ := List.mem_flatMap.1 hg
    exact O.lt (h3 e he) g hge
theorem MapOf.keep (h : MapOf K V O w m fp L) (hk : Keeps (fun g => g ∈ fp) w w') : MapOf K V O w' m fp L := by
  obtain ⟨es, h1, h2, h3, h4, h5⟩ := h
  refine ⟨es, h1.keep hk (by rw [h4]; simp), h2, fun e he => O.keep (h3 e he) (hk.mono fun g _ hg => ?_), h4, h5⟩
  rw [h4]
  exact List.mem_cons_of_mem _ (List.mem_flatMap.2 ⟨e, he, hg⟩)
/-- Such a map, as an object. -/
def mapOb (K : MK P kt κ) (V : η → Value) (O : Ob η α) : Ob Nat (List (κ × α)) where
  rep := MapOf K V O
  lt := MapOf.lt
  nd h := by obtain ⟨_, _, _, _, _, h5⟩ := h; exact h5
  keep := MapOf.keep
theorem MapOf.new (w : World) : MapOf K V O (w.alloc (.map #[] 0)) w.heap.size [w.heap.size] [] :=
  ⟨[], Mp.new w, rfl, by simp, by simp, by simp⟩
theorem MapOf.root (h : MapOf K V O w m fp L) : m ∈ fp := by obtain ⟨_, _, _, _, rfl, _⟩ := h; simp
theorem MapOf.keys (h : MapOf K V O w m fp L) : (L.map (·.1)).Nodup := by
  obtain ⟨es, h1, rfl, _⟩ := h
  have := h1.keys
  simpa [List.map_map, Function.comp_def] using this
theorem find_split {κ β : Type} (p : κ × β → Bool) : ∀ (es : List (κ × β)) {e : κ × β}, es.find? p = some e → ∃ pre post, es = pre ++ e :: post ∧ (∀ x ∈ pre, p x = false) ∧ p e = true
  | [], e, h => by simp at h
  | x :: es, e, h => by
    rw [List.find?_cons] at h
    cases hp : p x
    · rw [hp] at h
      obtain ⟨pre, post, rfl, h2, h3⟩ := find_split p es h
      exact ⟨x :: pre, post, rfl, fun y hy => by rcases List.mem_cons.1 hy with rfl | hy; exact hp; exact h2 y hy, h3⟩
    · rw [hp] at h
      obtain rfl := Option.some.inj h
      exact ⟨[], es, rfl, by simp, hp⟩
theorem eq_refl (K : MK P kt κ) (k : κ) : K.eq k k = true := (K.eq_iff k k).2 rfl
theorem eq_false_of (K : MK P kt κ) {a b : κ} (h : a ≠ b) : K.eq a b = false := by
  rw [Bool.eq_false_iff]; intro e; exact h ((K.eq_iff a b).1 e)
theorem getM_map {β γ : Type} (eq : κ → κ → Bool) (f : β → γ) (l : List (κ × β)) (k : κ) : getM eq (l.map fun e => (e.1, f e.2)) k = (getM eq l k).map f := by
  unfold getM
  rw [List.find?_map]
  cases h : l.find? ((fun p : κ × γ => eq k p.1) ∘ fun e => (e.1, f e.2)) with
  | none => rw [show (fun p : κ × β => eq k p.1) = (fun p : κ × γ => eq k p.1) ∘ (fun e : κ × β => (e.1, f e.2)) from rfl, h]; rfl
  | some e => rw [show (fun p : κ × β => eq k p.1) = (fun p : κ × γ => eq k p.1) ∘ (fun e : κ × β => (e.1, f e.2)) from rfl, h]; rfl
theorem putM_split {β : Type} (K : MK P kt κ) {pre post : List (κ × β)} {k : κ} {b b' : β} (hk : ((pre ++ (k, b) :: post).map (·.1)).Nodup) : putM K.eq (pre ++ (k, b) :: post) k b' = pre ++ (k, b') :: post := by
  rw [List.map_append, List.map_cons, List.nodup_append] at hk
  obtain ⟨_, h2, h3⟩ := hk
  rw [List.nodup_cons] at h2
  unfold putM
  rw [if_pos (List.any_eq_true.2 ⟨(k, b), by simp, eq_refl K k⟩), List.map_append, List.map_cons, if_pos (eq_refl K k)]
  congr 1
  · conv => rhs; rw [← List.map_id pre]
    apply List.map_congr_left
    intro p hp
    have hne : k ≠ p.1 := fun e => h3 p.1 (List.mem_map_of_mem hp) k (by simp) e.symm
    rw [eq_false_of K hne]; rfl
  · congr 1
    conv => rhs; rw [← List.map_id post]
    apply List.map_congr_left
    intro p hp
    have hne : k ≠ p.1 := fun e => h2.1 (by have h9 := List.mem_map_of_mem (f := (·.1)) hp; rwa [← e] at h9)
    rw [eq_false_of K hne]; rfl
theorem putM_new {β : Type} (K : MK P kt κ) {l : List (κ × β)} {k : κ} {b : β} (h : getM K.eq l k = none) : putM K.eq l k b = l ++ [(k, b)] := by
  unfold putM
  rw [if_neg]
  intro ha
  obtain ⟨p, hp, he⟩ := List.any_eq_true.1 ha
  unfold getM at h
  cases hf : l.find? (fun p => K.eq k p.1) with
  | none => exact absurd he (by have := List.find?_eq_none.1 hf p hp; simpa using this)
  | some q => rw [hf] at h; cases h
theorem getM_putM_self {β : Type} (K : MK P kt κ) (l : List (κ × β)) (k : κ) (v : β) : getM K.eq (putM K.eq l k v) k = some v := by
  unfold putM
  cases ha : l.any (fun p => K.eq k p.1)
  · rw [if_neg (by decide)]
    unfold getM
    have h0 : l.find? (fun p => K.eq k p.1) = none := by
      rw [List.find?_eq_none]; intro x hx; have := List.any_eq_false.1 ha x hx; simpa using this
    rw [List.find?_append, h0]
    simp [eq_refl K k]
  · rw [if_pos rfl]
    unfold getM
    rw [List.find?_map]
    have hq : ((fun p : κ × β => K.eq k p.1) ∘ fun p => if K.eq k p.1 = true then (p.1, v) else p) = fun p => K.eq k p.1 := by
      funext p
      simp only [Function.comp]
      split <;> rfl
    rw [hq, Option.map_map]
    cases hf : l.find? (fun p => K.eq k p.1) with
    | none =>
      obtain ⟨x, hx, hp⟩ := List.any_eq_true.1 ha
      exact absurd hp (List.find?_eq_none.1 hf x hx)
    | some p =>
      have hp : K.eq k p.1 = true := List.find?_some (p := fun q : κ × β => K.eq k q.1) hf
      simp [hp]
theorem getM_putM_ne {β : Type} (K : MK P kt κ) (l : List (κ × β)) {k k' : κ} (v : β) (h : k' ≠ k) : getM K.eq (putM K.eq l k v) k' = getM K.eq l k' := by
  unfold putM
  cases ha : l.any (fun p => K.eq k p.1)
  · rw [if_neg (by decide)]
    unfold getM
    rw [List.find?_append]
    simp [eq_false_of K h]
  · rw [if_pos rfl]
    unfold getM
    rw [List.find?_map]
    have hq : ((fun p : κ × β => K.eq k' p.1) ∘ fun p => if K.eq k p.1 = true then (p.1, v) else p) = fun p => K.eq k' p.1 := by
      funext p
      simp only [Function.comp]
      split <;> rfl
    rw [hq, Option.map_map]
    cases hf : l.find? (fun p => K.eq k' p.1) with
    | none => rfl
    | some p =>
      have hp : K.eq k' p.1 = true := List.find?_some (p := fun q : κ × β => K.eq k' q.1) hf
      have hk : K.eq k p.1 = false := eq_false_of K (fun e => h (((K.eq_iff _ _).1 hp).trans e.symm))
      simp [hk]
theorem putM_putM {β : Type} (K : MK P kt κ) (l : List (κ × β)) (k : κ) (v v' : β) : putM K.eq (putM K.eq l k v) k v' = putM K.eq l k v' := by
  cases ha : l.any (fun p => K.eq k p.1)
  · have h1 : putM K.eq l k v = l ++ [(k, v)] := by unfold putM; rw [ha]; rfl
    have h2 : putM K.eq l k v' = l ++ [(k, v')] := by unfold putM; rw [ha]; rfl
    rw [h1, h2]
    unfold putM
    rw [if_pos (by rw [List.any_append]; simp [eq_refl K k]), List.map_append]
    congr 1
    · conv => rhs; rw [← List.map_id l]
      apply List.map_congr_left
      intro p hp
      have := List.any_eq_false.1 ha p hp
      rw [if_neg this]; rfl
    · simp [eq_refl K k]
  · have h1 : putM K.eq l k v = l.map (fun p => if K.eq k p.1 then (p.1, v) else p) := by unfold putM; rw [ha]; rfl
    have h2 : putM K.eq l k v' = l.map (fun p => if K.eq k p.1 then (p.1, v') else p) := by unfold putM; rw [ha]; rfl
    rw [h1, h2]
    unfold putM
    rw [if_pos, List.map_map]
    · apply List.map_congr_left
      intro p _
      simp only [Function.comp]
      by_cases hp : K.eq k p.1 = true
      · rw [if_pos hp, if_pos hp]; simp [hp]
      · rw [if_neg hp, if_neg hp]
    · obtain ⟨x, hx, hp⟩ := List.any_eq_true.1 ha
      exact List.any_eq_true.2 ⟨_, List.mem_map_of_mem hx, by simp [hp]⟩
/-- One of the objects, and the way back: turned in place (its handle stays), or put under its key anew. -/
theorem MapOf.focus (h : MapOf K V O w m fp L) {k : κ} {a : α} (hg : getM K.eq L k = some a) :
    ∃ (x : η) (f : List Nat), O.rep w x f a ∧ (∀ g ∈ f, g ∈ fp) ∧ m ∉ f ∧
      (∀ {t et : TypeId} (_ : P.underlying t = some (.map kt et)) {z : Value} {W : World}, (zeroValue et).run P W = .ok z W → Keeps (fun g => g = m) w W → ∀ c : Bool, (Instr.lookup t (.map (some m)) (K.of k) c).run P W = .ok (if c then .tuple #[V x, .bool true] else V x) W) ∧
      (∀ (W : World) (f' : List Nat) (a' : α), O.rep W x f' a' → Turned f f' w W → ∃ fp', MapOf K V O W m fp' (putM K.eq L k a') ∧ Turned fp fp' w W) ∧
      (∀ {t et : TypeId} (_ : P.underlying t = some (.map kt et)) (W : World) (x' : η) (f' : List Nat) (a' : α), O.rep W x' f' a' → Turned f f' w W →
        ∃ W' fp', (Instr.mapUpdate t (.map (some m)) (K.of k) (V x')).run P W = .ok () W' ∧ MapOf K V O W' m fp' (putM K.eq L k a') ∧ Turned fp fp' w W' ∧ Keeps (fun g => g ≠ m) W W') := by
  obtain ⟨es, h1, rfl, h3, rfl, h5⟩ := h
  have hkeys := h1.keys
  rw [getM_map K.eq (fun e : η × List Nat × α => e.2.2)] at hg
  obtain ⟨y, hy, rfl⟩ := Option.map_eq_some_iff.1 hg
  obtain ⟨e, he, rfl⟩ := Option.map_eq_some_iff.1 hy
  obtain ⟨pre, post, rfl, hpre, hek⟩ := find_split _ _ he
  obtain ⟨k', x, f, a⟩ := e
  obtain rfl : k = k' := (K.eq_iff _ _).1 hek
  have hk2 : ((pre ++ (k, x, f, a) :: post).map (·.1)).Nodup := by simpa [List.map_map, Function.comp_def] using hkeys
  have hfl : (pre ++ (k, x, f, a) :: post).flatMap (fun e => e.2.2.1) = pre.flatMap (fun e => e.2.2.1) ++ (f ++ post.flatMap (fun e => e.2.2.1)) := by simp
  have hrep : O.rep w x f a := h3 (k, x, f, a) (by simp)
  have hmem : ∀ g ∈ f, g ∈ m :: (pre ++ (k, x, f, a) :: post).flatMap (fun e => e.2.2.1) := fun g hg => by rw [hfl]; simp [hg]
  have hmf : m ∉ f := fun hm => by
    rw [List.nodup_cons, hfl] at h5
    exact h5.1 (by simp [hm])
  have hlt : ∀ g ∈ m :: (pre ++ (k, x, f, a) :: post).flatMap (fun e => e.2.2.1), g < w.heap.size := MapOf.lt (L := (pre ++ (k, x, f, a) :: post).map (fun e => (e.1, e.2.2.2))) ⟨_, h1, rfl, h3, rfl, h5⟩
  have hput : ∀ a' : α, putM K.eq ((pre ++ (k, x, f, a) :: post).map (fun e => (e.1, e.2.2.2))) k a' = (pre.map fun e => (e.1, e.2.2.2)) ++ (k, a') :: (post.map fun e => (e.1, e.2.2.2)) := fun a' => by
    rw [List.map_append, List.map_cons]
    refine putM_split K ?_
    have := hk2
    simpa [List.map_map, Function.comp_def] using this
  have hput2 : ∀ x' : η, putM K.eq ((pre ++ (k, x, f, a) :: post).map (fun e => (e.1, e.2.1))) k x' = (pre.map fun e => (e.1, e.2.1)) ++ (k, x') :: (post.map fun e => (e.1, e.2.1)) := fun x' => by
    rw [List.map_append, List.map_cons]
    refine putM_split K ?_
    have := hk2
    simpa [List.map_map, Function.comp_def] using this
  have hgx : getM K.eq ((pre ++ (k, x, f, a) :: post).map (fun e => (e.1, e.2.1))) k = some x := by
    rw [getM_map K.eq (fun e : η × List Nat × α => e.1)]
    unfold getM
    rw [he]; rfl
  have hnew : ∀ f' : List Nat, f'.Nodup → (∀ g ∈ f', g ∈ f ∨ w.heap.size ≤ g) → (m :: (pre.flatMap (fun e => e.2.2.1) ++ (f' ++ post.flatMap (fun e => e.2.2.1)))).Nodup := fun f' hn hf' => by
    have h6 := h5
    rw [hfl] at h6 hlt
    rw [List.nodup_cons, List.nodup_append, List.nodup_append] at h6 ⊢
    obtain ⟨q1, q2, ⟨q3, q4, q5⟩, q6⟩ := h6
    refine ⟨fun hm => ?_, q2, ⟨hn, q4, fun g hg y hy e => ?_⟩, fun g hg y hy e => ?_⟩
    · rcases List.mem_append.1 hm with hm | hm
      · exact q1 (by simp [hm])
      · rcases List.mem_append.1 hm with hm | hm
        · rcases hf' m hm with h9 | h9
          · exact hmf h9
          · have := hlt m (by simp); omega
        · exact q1 (by simp [hm])
    · rcases hf' g hg with h9 | h9
      · exact q5 g h9 y hy e
      · have := hlt y (by simp [hy]); omega
    · rcases List.mem_append.1 hy with hy | hy
      · rcases hf' y hy with h9 | h9
        · exact q6 g hg y (by simp [h9]) e
        · have := hlt g (by simp [hg]); omega
      · exact q6 g hg y (by simp [hy]) e
  have hother : ∀ e ∈ pre ++ post, ∀ g ∈ e.2.2.1, g ∉ f := fun e he g hg hgf => by
    have h6 := h5
    rw [hfl, List.nodup_cons, List.nodup_append, List.nodup_append] at h6
    obtain ⟨_, _, ⟨_, _, q5⟩, q6⟩ := h6
    rcases List.mem_append.1 he with he | he
    · exact q6 g (List.mem_flatMap.2 ⟨e, he, hg⟩) g (by simp [hgf]) rfl
    · exact q5 g hgf g (List.mem_flatMap.2 ⟨e, he, hg⟩) rfl
  refine ⟨x, f, hrep, hmem, hmf, ?_, ?_, ?_⟩
  · intro t et ht z W hz hW c
    have h9 := (h1.keep hW rfl).look ht hz k c
    rw [hgx] at h9
    rw [h9]; rfl
  · intro W f' a' hr ht
    refine ⟨m :: (pre.flatMap (fun e => e.2.2.1) ++ (f' ++ post.flatMap (fun e => e.2.2.1))), ⟨pre ++ (k, x, f', a') :: post, ?_, ?_, ?_, by simp, hnew f' (O.nd hr) ht.grew⟩, ht.wide hmem, ?_⟩
    · have := h1.keep ht.keeps hmf
      simpa using this
    · rw [hput]; simp
    · intro e he
      rcases List.mem_append.1 he with he | he
      · exact (h3 e (by simp [he])) |> fun h => O.apart h ht (hother e (by simp [he]))
      · rcases List.mem_cons.1 he with rfl | he
        · exact hr
        · exact (h3 e (by simp [he])) |> fun h => O.apart h ht (hother e (by simp [he]))
    · intro g hg
      rw [hfl]
      simp only [List.mem_cons, List.mem_append] at hg ⊢
      rcases hg with h9 | h9 | h9 | h9
      · exact .inl (.inl h9)
      · exact .inl (.inr (.inl h9))
      · rcases ht.grew g h9 with h8 | h8
        · exact .inl (.inr (.inr (.inl h8)))
        · exact .inr h8
      · exact .inl (.inr (.inr (.inr h9)))
  · intro t et ht0 W x' f' a' hr ht
    obtain ⟨W', hrun, hmp, hkp, hsz⟩ := (h1.keep ht.keeps hmf).put ht0 k x'
    rw [hput2] at hmp
    have hmf' : m ∉ f' := fun hm => by
      rcases ht.grew m hm with h9 | h9
      · exact hmf h9
      · have := hlt m (by simp); omega
    refine ⟨W', m :: (pre.flatMap (fun e => e.2.2.1) ++ (f' ++ post.flatMap (fun e => e.2.2.1))), hrun, ⟨pre ++ (k, x', f', a') :: post, by simpa using hmp, ?_, ?_, by simp, hnew f' (O.nd hr) ht.grew⟩, ⟨?_, ?_⟩, hkp⟩
    · rw [hput]; simp
    · have hne : ∀ e ∈ pre ++ post, ∀ g ∈ e.2.2.1, g ≠ m := fun e he g hg e2 => by
        subst e2
        rw [List.nodup_cons, hfl] at h5
        refine h5.1 ?_
        rcases List.mem_append.1 he with he | he
        · exact List.mem_append.2 (.inl (List.mem_flatMap.2 ⟨e, he, hg⟩))
        · exact List.mem_append.2 (.inr (List.mem_append.2 (.inr (List.mem_flatMap.2 ⟨e, he, hg⟩))))
      intro e he
      rcases List.mem_append.1 he with he | he
      · exact O.keep ((h3 e (by simp [he])) |> fun h => O.apart h ht (hother e (by simp [he]))) (hkp.mono fun g _ hg => hne e (by simp [he]) g hg)
      · rcases List.mem_cons.1 he with rfl | he
        · exact O.keep hr (hkp.mono fun g _ hg e => hmf' (e ▸ hg))
        · exact O.keep ((h3 e (by simp [he])) |> fun h => O.apart h ht (hother e (by simp [he]))) (hkp.mono fun g _ hg => hne e (by simp [he]) g hg)
    · exact Keeps.then_ (ht.wide hmem) hkp (fun g _ hg e => hg (by rw [e]; simp))
    · intro g hg
      rw [hfl]
      simp only [List.mem_cons, List.mem_append] at hg ⊢
      rcases hg with h9 | h9 | h9 | h9
      · exact .inl (.inl h9)
      · exact .inl (.inr (.inl h9))
      · rcases ht.grew g h9 with h8 | h8
        · exact .inl (.inr (.inr (.inl h8)))
        · exact .inr h8
      · exact .inl (.inr (.inr (.inr h9)))
/-- No such key. -/
theorem MapOf.look_none (h : MapOf K V O w m fp L) {k : κ} (hg : getM K.eq L k = none) {t et : TypeId} (ht : P.underlying t = some (.map kt et)) {z : Value} {W : World} (hz : (zeroValue et).run P W = .ok z W) (hW : Keeps (fun g => g = m) w W) (c : Bool) :
    (Instr.lookup t (.map (some m)) (K.of k) c).run P W = .ok (if c then .tuple #[z, .bool false] else z) W := by
  obtain ⟨es, h1, rfl, h3, rfl, h5⟩ := h
  have hgx : getM K.eq (es.map (fun e => (e.1, e.2.1))) k = none := by
    rw [getM_map K.eq (fun e : η × List Nat × α => e.2.2)] at hg
    rw [getM_map K.eq (fun e : η × List Nat × α => e.1)]
    cases hh : getM K.eq es k with
    | none => rfl
    | some y => rw [hh] at hg; cases hg
  have h9 := (h1.keep hW rfl).look ht hz k c
  rw [hgx] at h9
  rw [h9]; rfl
/-- One more is put in; it lies apart. -/
theorem MapOf.insert (h : MapOf K V O w m fp L) {k : κ} (hg : getM K.eq L k = none) {t et : TypeId} (ht0 : P.underlying t = some (.map kt et)) {W : World} {x : η} {f : List Nat} {a : α} (hr : O.rep W x f a) (hW : Ext w W) (hf : ∀ g ∈ f, w.heap.size ≤ g) :
    ∃ W' fp', (Instr.mapUpdate t (.map (some m)) (K.of k) (V x)).run P W = .ok () W' ∧ MapOf K V O W' m fp' (putM K.eq L k a) ∧ Turned fp fp' w W' ∧ Keeps (fun g => g ≠ m) W W' := by
  have hlt := h.lt
  obtain ⟨es, h1, rfl, h3, rfl, h5⟩ := h
  have hgx : getM K.eq (es.map (fun e => (e.1, e.2.1))) k = none := by
    rw [getM_map K.eq (fun e : η × List Nat × α => e.2.2)] at hg
    rw [getM_map K.eq (fun e : η × List Nat × α => e.1)]
    cases hh : getM K.eq es k with
    | none => rfl
    | some y => rw [hh] at hg; cases hg
  obtain ⟨W', hrun, hmp, hkp, hsz⟩ := (h1.ext hW).put ht0 k x
  rw [putM_new K hgx] at hmp
  have hmf : m ∉ f := fun hm => by have := hf m hm; have := hlt m (by simp); omega
  refine ⟨W', m :: (es.flatMap (fun e => e.2.2.1) ++ f), hrun, ⟨es ++ [(k, x, f, a)], by simpa using hmp, by rw [putM_new K hg]; simp, ?_, by simp, ?_⟩, ⟨?_, ?_⟩, hkp⟩
  · intro e he
    rcases List.mem_append.1 he with he | he
    · refine O.keep (Ob.ext (h3 e he) hW) (hkp.mono fun g _ hg e2 => ?_)
      subst e2
      rw [List.nodup_cons] at h5
      exact h5.1 (List.mem_flatMap.2 ⟨e, he, hg⟩)
    · simp at he; subst he
      exact O.keep hr (hkp.mono fun g _ hg e => hmf (e ▸ hg))
  · rw [List.nodup_cons, List.nodup_append] at *
    refine ⟨fun hm => ?_, h5.2, O.nd hr, fun g hg y hy e => ?_⟩
    · rcases List.mem_append.1 hm with hm | hm
      · exact h5.1 hm
      · exact hmf hm
    · have := hlt g (by simp [hg]); have := hf y hy; omega
  · exact Keeps.then_ (hW.keeps _) hkp (fun g _ hg e => hg (by rw [e]; simp))
  · intro g hg
    simp only [List.mem_cons, List.mem_append] at hg ⊢
    rcases hg with h9 | h9 | h9
    · exact .inl (.inl h9)
    · exact .inl (.inr h9)
    · exact .inr (hf g h9)
end
/-- Looked up: the zero value, where there is none. -/
theorem Mp.look1 {P : Program} {kt : TypeId} {κ β : Type} {K : MK P kt κ} {V : β → Value} {w : World} {b : Nat} {l : List (κ × β)} (h : Mp K V w b l) {t et : TypeId} (ht : P.underlying t = some (.map kt et)) {z : β} (hz : (zeroValue et).run P w = .ok (V z) w) (k : κ) :
    (Instr.lookup t (.map (some b)) (K.of k) false).run P w = .ok (V ((getM K.eq l k).getD z)) w := by
  rw [h.look ht hz k false]
  cases getM K.eq l k <;> rfl
theorem Mp.look2 {P : Program} {kt : TypeId} {κ β : Type} {K : MK P kt κ} {V : β → Value} {w : World} {b : Nat} {l : List (κ × β)} (h : Mp K V w b l) {t et : TypeId} (ht : P.underlying t = some (.map kt et)) {z : β} (hz : (zeroValue et).run P w = .ok (V z) w) (k : κ) :
    (Instr.lookup t (.map (some b)) (K.of k) true).run P w = .ok (.tuple #[V ((getM K.eq l k).getD z), .bool (getM K.eq l k).isSome]) w := by
  rw [h.look ht hz k true]
  cases getM K.eq l k <;> rfl
/-- A map of plain values, as an object. -/
def mpOb {P : Program} {kt : TypeId} {κ β : Type} (K : MK P kt κ) (V : β → Value) : Ob Nat (List (κ × β)) where
  rep w m fp l := Mp K V w m l ∧ fp = [m]
  lt h g hg := by obtain ⟨h1, rfl⟩ := h; simp at hg; subst hg; exact h1.lt
  nd h := by obtain ⟨_, rfl⟩ := h; simp
  keep h hk := by obtain ⟨h1, rfl⟩ := h; exact ⟨h1.keep hk (by simp), rfl⟩
/-- Integers as keys. -/
def intK {P : Program} {kt : TypeId} {q : IntKind} (hk : P.underlying kt = some (.int q)) : MK P kt Int where
  of := .int q
  eq a b := decide (a = b)
  eq_iff a b := by simp
  check w em a := MapKept.run_checkKey (k := .int q a) hk rfl em 9999
  find w a es hall := by
    rcases findNow_spec (d := .int q) (k := .int q a) rfl es 0 (fun x hx => by obtain ⟨b, hb⟩ := hall x hx; rw [hb]; rfl) with ⟨h1, h2⟩ | ⟨j, e, h1, h2, h3⟩
    · exact .inl ⟨MapKept.run_findKey hk h1, h2⟩
    · exact .inr ⟨j, e, by rw [MapKept.run_findKey hk h1, Nat.zero_add], h2, h3⟩
  inj a b h := by injection h
  stays w a := MapKept.run_keyThatStays (d := .int q) (k := .int q a) rfl
end Go.Proofs.YtpkkkhgmkndpdaaGreatDoor
namespace Go.Proofs.YtpkkkhgmkndpdaaGreatDoor
open Go Go.RowKit Go.MapKept
section
variable {α : Type} {R : Rep α} {t : TypeId} {w w' W0 : World} {v : Value} {fp : List Nat} {l : List α}
theorem own_block_eq {fs : List Nat} {g : Nat} (h : g ∈ v.ownBlock.toList ++ fs) : v.ownBlock = some g ∨ g ∈ fs := by
  rcases List.mem_append.1 h with h | h
  · left
    cases hb : v.ownBlock with
    | none => rw [hb] at h; simp at h
    | some k => rw [hb] at h; simp at h; rw [h]
  · exact .inr h
/-- A row of elements; fs: the blocks to which these lead. -/
structure RowAt (R : Rep α) (t : TypeId) (w : World) (v : Value) (fs : List Nat) (l : List α) : Prop where
  own : Own R t (fun g => g ∈ fs) w 0 v l.length l
  nd : (v.ownBlock.toList ++ fs).Nodup
  lt : ∀ g ∈ fs, g < w.heap.size
theorem RowAt.keep {fs : List Nat} (h : RowAt R t w v fs l) (hk : Keeps (fun g => g ∈ v.ownBlock.toList ++ fs) w w') : RowAt R t w' v fs l :=
  ⟨h.own.keep (hk.mono fun _ _ hg => List.mem_append.2 (.inr hg.1)) (fun g hg => hk.block g (h.own.lt g hg).2 (List.mem_append.2 (.inl (by rw [hg]; simp)))), h.nd, fun g hg => Nat.lt_of_lt_of_le (h.lt g hg) hk.size⟩
theorem RowAt.ext {fs : List Nat} (h : RowAt R t w v fs l) (hx : Ext w w') : RowAt R t w' v fs l := h.keep (hx.keeps _)
theorem RowAt.nil_ (R : Rep α) (t : TypeId) (w : World) : RowAt R t w (.slice none 0 0) [] [] := ⟨Own.nil_, by simp [Value.ownBlock], by simp⟩
theorem RowAt.form {fs : List Nat} (h : RowAt R t w v fs l) : ∃ A c, v = .slice A l.length c := h.own.form
theorem RowAt.sl {fs : List Nat} {A : Option Addr} {n c : Nat} (h : RowAt R t w (.slice A n c) fs l) : Sl R (fun g => g ∈ (Value.slice A n c).ownBlock.toList ++ fs) w A n l := by
  obtain ⟨A', c', e⟩ := h.form
  injection e with e1 e2 e3
  subst e2
  exact h.own.sl (fun g _ _ hg => List.mem_append.2 (.inl (by rw [hg]; simp))) (fun _ _ hg => List.mem_append.2 (.inr hg))
/-- As an object. -/
def rowOb (R : Rep α) (t : TypeId) : Ob Value (List α) where
  rep w v fp l := ∃ fs, RowAt R t w v fs l ∧ fp = v.ownBlock.toList ++ fs
  lt h g hg := by
    obtain ⟨fs, h1, rfl⟩ := h
    rcases own_block_eq hg with h2 | h2
    · exact (h1.own.lt g h2).2
    · exact h1.lt g h2
  nd h := by obtain ⟨fs, h1, rfl⟩ := h; exact h1.nd
  keep h hk := by obtain ⟨fs, h1, rfl⟩ := h; exact ⟨fs, h1.keep hk, rfl⟩
/-- Behind an append: the row as it was at W0; the elements that came lead to new blocks fs'. -/
theorem RowAt.app {fs fs' : List Nat} {l' : List α} {A' : Option Addr} {n c' : Nat} (h : RowAt R t W0 v fs l) (hx : Ext W0 w) (hown : Own R t (fun g => g ∈ fs ++ fs') w' 0 (.slice A' n c') n (l ++ l')) (hg : w.grownBy w' v.ownBlock)
    (hat : (Value.slice A' n c').ownBlock = v.ownBlock ∨ (Value.slice A' n c').ownBlock = some w.heap.size) (hf : ∀ g ∈ fs', W0.heap.size ≤ g ∧ g < w.heap.size) (hn : fs'.Nodup) :
    RowAt R t w' (.slice A' n c') (fs ++ fs') (l ++ l') ∧ Turned (v.ownBlock.toList ++ fs) ((Value.slice A' n c').ownBlock.toList ++ (fs ++ fs')) W0 w' := by
  have hlen : (l ++ l').length = n := hown.1
  have hsz := hx.size
  have hsz2 := hg.size
  have hvlt : ∀ g, v.ownBlock = some g → g < W0.heap.size := fun g hg => (h.own.lt g hg).2
  have hnd0 := List.nodup_append.1 h.nd
  have hfs : (fs ++ fs').Nodup := by
    rw [List.nodup_append]
    exact ⟨hnd0.2.1, hn, fun g hg y hy e => by have := h.lt g hg; have := (hf y hy).1; omega⟩
  refine ⟨⟨by rw [hlen]; exact hown, ?_, fun g hg => ?_⟩, ⟨?_, fun g hg => ?_⟩⟩
  · rw [List.nodup_append]
    refine ⟨by cases (Value.slice A' n c').ownBlock <;> simp, hfs, fun g hg y hy e => ?_⟩
    subst e
    rcases own_block_eq (List.mem_append.2 (.inl hg) : g ∈ (Value.slice A' n c').ownBlock.toList ++ []) with h2 | h2
    · rcases hat with h3 | h3
      · rw [h3] at h2
        rcases List.mem_append.1 hy with h4 | h4
        · exact hnd0.2.2 g (by rw [h2]; simp) g h4 rfl
        · have := (hf g h4).1; have := hvlt g h2; omega
      · rw [h3] at h2
        obtain rfl := Option.some.inj h2
        rcases List.mem_append.1 hy with h4 | h4
        · have := h.lt _ h4; omega
        · have := (hf _ h4).2; omega
    · simp at h2
  · rcases List.mem_append.1 hg with h4 | h4
    · have := h.lt g h4; omega
    · have := (hf g h4).2; omega
  · exact Keeps.grown (hx.keeps _) hg (fun k hk hl hn => hn (List.mem_append.2 (.inl (by rw [hk]; simp))))
  · rcases own_block_eq hg with h2 | h2
    · rcases hat with h3 | h3
      · rw [h3] at h2; exact .inl (List.mem_append.2 (.inl (by rw [h2]; simp)))
      · rw [h3] at h2
        obtain rfl := Option.some.inj h2
        exact .inr hsz
    · rcases List.mem_append.1 h2 with h4 | h4
      · exact .inl (List.mem_append.2 (.inr h4))
      · exact .inr (hf g h4).1
end
/-- Integers as elements. -/
def intR : Rep Int where
  size := 1
  rep _ _ z xs := xs = [.int .i64 z]
  len h := by subst h; rfl
  one h u hu := by subst h; simp at hu; subst hu; rfl
  keep _ h := h
  mono _ h := h
theorem intR_flat : intR.flat := fun _ _ _ _ _ _ h => h
theorem blk_at (w : World) (o : Obj) {g : Nat} (h : w.heap.size = g) : (w.alloc o).heap[g]? = some o := h ▸ blk_new w o
/-- A map of rows: the row of a key, nil where there is none, and the way back. -/
theorem rows_focus {P : Program} {kt : TypeId} {κ α : Type} {K : MK P kt κ} {R : Rep α} {t : TypeId} {w : World} {m : Nat} {f : List Nat} {L : List (κ × List α)} (h : MapOf K (fun v : Value => v) (rowOb R t) w m f L) (k : κ) :
    ∃ (v : Value) (fs : List Nat), RowAt R t w v fs ((getM K.eq L k).getD []) ∧ (∀ g ∈ v.ownBlock.toList ++ fs, g ∈ f) ∧ m ∉ v.ownBlock.toList ++ fs ∧
      (∀ {mt et : TypeId} (_ : P.underlying mt = some (.map kt et)) {W : World}, (zeroValue et).run P W = .ok (.slice none 0 0) W → Keeps (fun g => g = m) w W → (Instr.lookup mt (.map (some m)) (K.of k) false).run P W = .ok v W) ∧
      (∀ {mt et : TypeId} (_ : P.underlying mt = some (.map kt et)) (W : World) (v' : Value) (fs' : List Nat) (l' : List α), RowAt R t W v' fs' l' → Turned (v.ownBlock.toList ++ fs) (v'.ownBlock.toList ++ fs') w W →
        ∃ W' f', (Instr.mapUpdate mt (.map (some m)) (K.of k) v').run P W = .ok () W' ∧ MapOf K (fun v : Value => v) (rowOb R t) W' m f' (putM K.eq L k l') ∧ Turned f f' w W' ∧ Keeps (fun g => g ≠ m) W W') := by
  cases hg : getM K.eq L k with
  | none =>
    refine ⟨.slice none 0 0, [], RowAt.nil_ R t w, by simp [Value.ownBlock], by simp [Value.ownBlock], fun ht W hz hW => ?_, fun ht W v' fs' l' hr htu => ?_⟩
    · exact h.look_none hg ht hz hW false
    · have hx : Ext w W := htu.keeps.mono (fun g _ _ => by simp [Value.ownBlock])
      exact h.insert hg ht (x := v') (f := v'.ownBlock.toList ++ fs') (a := l') ⟨fs', hr, rfl⟩ hx (fun g hg9 => by
        rcases htu.grew g hg9 with h9 | h9
        · simp [Value.ownBlock] at h9
        · exact h9)
  | some l =>
    obtain ⟨v, fp, ⟨fs, hr, rfl⟩, h2, h3, h4, _, h6⟩ := h.focus hg
    refine ⟨v, fs, hr, h2, h3, fun ht W hz hW => ?_, fun ht W v' fs' l' hr' htu => ?_⟩
    · exact h4 ht hz hW false
    · exact h6 ht W v' _ l' ⟨fs', hr', rfl⟩ htu
end Go.Proofs.YtpkkkhgmkndpdaaGreatDoor
namespace Go.Proofs.YtpkkkhgmkndpdaaGreatDoor
open Go Go.RowKit Go.MapKept
section
variable {η α β : Type} {t : TypeId} {C : α → η → Array Value} {O : Ob η β} {sub : α → β} {w w' W : World} {b : Nat} {fp : List Nat} {a a' : α}
/-- Block b holds the cells of a; what hangs on it is an object with the handle h. -/
def BoxAt (t : TypeId) (C : α → η → Array Value) (O : Ob η β) (sub : α → β) (w : World) (b : Nat) (fp : List Nat) (a : α) : Prop :=
  ∃ (h : η) (f : List Nat), w.heap[b]? = some (.cells (C a h) t) ∧ O.rep w h f (sub a) ∧ fp = b :: f ∧ fp.Nodup
def boxOb (t : TypeId) (C : α → η → Array Value) (O : Ob η β) (sub : α → β) : Ob Nat α where
  rep := BoxAt t C O sub
  lt h g hg := by
    obtain ⟨x, f, h1, h2, rfl, _⟩ := h
    rcases List.mem_cons.1 hg with rfl | hg
    · exact (Array.getElem?_eq_some_iff.1 h1).1
    · exact O.lt h2 g hg
  nd h := by obtain ⟨_, _, _, _, _, h5⟩ := h; exact h5
  keep h hk := by
    obtain ⟨x, f, h1, h2, rfl, h5⟩ := h
    exact ⟨x, f, hk.blk h1 (by simp), O.keep h2 (hk.mono fun g _ hg => List.mem_cons_of_mem _ hg), rfl, h5⟩
theorem BoxAt.lt (h : BoxAt t C O sub w b fp a) : ∀ g ∈ fp, g < w.heap.size := (boxOb t C O sub).lt h
theorem BoxAt.keep (h : BoxAt t C O sub w b fp a) (hk : Keeps (fun g => g ∈ fp) w w') : BoxAt t C O sub w' b fp a := (boxOb t C O sub).keep h hk
theorem BoxAt.ext (h : BoxAt t C O sub w b fp a) (hx : Ext w w') : BoxAt t C O sub w' b fp a := h.keep (hx.keeps _)
/-- A new one. -/
theorem BoxAt.new {h : η} {f : List Nat} (hb : w.heap[b]? = some (.cells (C a h) t)) (hr : O.rep w h f (sub a)) (hn : b ∉ f) : BoxAt t C O sub w b (b :: f) a :=
  ⟨h, f, hb, hr, rfl, List.nodup_cons.2 ⟨hn, O.nd hr⟩⟩
/-- A cell of the block is stored to. -/
theorem BoxAt.store (h : BoxAt t C O sub w b fp a) {j : Nat} {u : Value} (hC : ∀ x, C a' x = (C a x).setIfInBounds j u) (hs : sub a' = sub a) :
    BoxAt t C O sub (w.setCell ⟨b, j, none⟩ u) b fp a' ∧ Turned fp fp w (w.setCell ⟨b, j, none⟩ u) := by
  obtain ⟨x, f, h1, h2, rfl, h5⟩ := h
  have hk : Keeps (fun g => g ≠ b) w (w.setCell ⟨b, j, none⟩ u) := (Keeps.refl _ _).setCell (fun _ hn => hn rfl) _
  refine ⟨⟨x, f, ?_, ?_, rfl, h5⟩, hk.mono (fun g _ hg e => hg (by rw [e]; simp)), fun g hg => .inl hg⟩
  · rw [hC]; exact blk_set h1 j u
  · rw [hs]
    exact O.keep h2 (hk.mono fun g _ hg e => (List.nodup_cons.1 h5).1 (e ▸ hg))
/-- What hangs on it has turned, its handle has not. -/
theorem BoxAt.turn {h : η} {f f' : List Nat} (hb : w.heap[b]? = some (.cells (C a h) t)) (hlt : b ∉ f) (hr : O.rep W h f' (sub a')) (ht : Turned f f' w W) (hC : C a' h = C a h) : BoxAt t C O sub W b (b :: f') a' ∧ Turned (b :: f) (b :: f') w W := by
  have hbl : b < w.heap.size := (Array.getElem?_eq_some_iff.1 hb).1
  refine ⟨⟨h, f', ?_, hr, rfl, List.nodup_cons.2 ⟨fun hm => ?_, O.nd hr⟩⟩, ht.wide (fun g hg => List.mem_cons_of_mem _ hg), fun g hg => ?_⟩
  · rw [hC]; exact ht.keeps.blk hb hlt
  · rcases ht.grew b hm with h9 | h9
    · exact hlt h9
    · omega
  · rcases List.mem_cons.1 hg with rfl | hg
    · exact .inl (by simp)
    · rcases ht.grew g hg with h9 | h9
      · exact .inl (List.mem_cons_of_mem _ h9)
      · exact .inr h9
end
section
variable {η η' α β : Type} {O : Ob η α} {O' : Ob η' β} {w w' W : World} {h : η × η'} {fp : List Nat} {a : α × β}
def PairAt (O : Ob η α) (O' : Ob η' β) (w : World) (h : η × η') (fp : List Nat) (a : α × β) : Prop :=
  ∃ f f', O.rep w h.1 f a.1 ∧ O'.rep w h.2 f' a.2 ∧ fp = f ++ f' ∧ fp.Nodup
/-- Two objects beside each other. -/
def pairOb (O : Ob η α) (O' : Ob η' β) : Ob (η × η') (α × β) where
  rep := PairAt O O'
  lt h g hg := by
    obtain ⟨f, f', h1, h2, rfl, _⟩ := h
    rcases List.mem_append.1 hg with hg | hg
    · exact O.lt h1 g hg
    · exact O'.lt h2 g hg
  nd h := by obtain ⟨_, _, _, _, _, h5⟩ := h; exact h5
  keep h hk := by
    obtain ⟨f, f', h1, h2, rfl, h5⟩ := h
    exact ⟨f, f', O.keep h1 (hk.mono fun g _ hg => List.mem_append.2 (.inl hg)), O'.keep h2 (hk.mono fun g _ hg => List.mem_append.2 (.inr hg)), rfl, h5⟩
theorem nd_grow {f f1 f' : List Nat} {w : World} (hn : (f ++ f').Nodup) (h1 : f1.Nodup) (hg : ∀ g ∈ f1, g ∈ f ∨ w.heap.size ≤ g) (hl : ∀ g ∈ f', g < w.heap.size) : (f1 ++ f').Nodup := by
  rw [List.nodup_append] at hn ⊢
  refine ⟨h1, hn.2.1, fun g hg1 y hy e => ?_⟩
  rcases hg g hg1 with h9 | h9
  · exact hn.2.2 g h9 y hy e
  · have := hl y hy; omega
theorem nd_swap {f f' : List Nat} (hn : (f ++ f').Nodup) : (f' ++ f).Nodup := (List.perm_append_comm.nodup_iff).1 hn
/-- The first one turned. -/
theorem PairAt.fst {y : η'} {v : β} {f f' : List Nat} (h2 : O'.rep w y f' v) (hn : (f ++ f').Nodup) {x' : η} {u' : α} {f1 : List Nat} (hr : O.rep W x' f1 u') (ht : Turned f f1 w W) :
    PairAt O O' W (x', y) (f1 ++ f') (u', v) ∧ Turned (f ++ f') (f1 ++ f') w W := by
  have hd : ∀ g ∈ f', g ∉ f := fun g hg hf => (List.nodup_append.1 hn).2.2 g hf g hg rfl
  refine ⟨⟨f1, f', hr, O'.keep h2 (ht.keeps.mono fun g _ hg => hd g hg), rfl, nd_grow hn (O.nd hr) ht.grew (O'.lt h2)⟩, ht.wide (fun g hg => List.mem_append.2 (.inl hg)), fun g hg => ?_⟩
  rcases List.mem_append.1 hg with hg | hg
  · rcases ht.grew g hg with h9 | h9
    · exact .inl (List.mem_append.2 (.inl h9))
    · exact .inr h9
  · exact .inl (List.mem_append.2 (.inr hg))
/-- The second one turned. -/
theorem PairAt.snd {x : η} {u : α} {f f' : List Nat} (h1 : O.rep w x f u) (hn : (f ++ f').Nodup) {y' : η'} {v' : β} {f1 : List Nat} (hr : O'.rep W y' f1 v') (ht : Turned f' f1 w W) :
    PairAt O O' W (x, y') (f ++ f1) (u, v') ∧ Turned (f ++ f') (f ++ f1) w W := by
  have hd : ∀ g ∈ f, g ∉ f' := fun g hg hf => (List.nodup_append.1 hn).2.2 g hg g hf rfl
  refine ⟨⟨f, f1, O.keep h1 (ht.keeps.mono fun g _ hg => hd g hg), hr, rfl, nd_swap (nd_grow (nd_swap hn) (O'.nd hr) ht.grew (O.lt h1))⟩, ht.wide (fun g hg => List.mem_append.2 (.inr hg)), fun g hg => ?_⟩
  rcases List.mem_append.1 hg with hg | hg
  · exact .inl (List.mem_append.2 (.inl hg))
  · rcases ht.grew g hg with h9 | h9
    · exact .inl (List.mem_append.2 (.inr h9))
    · exact .inr h9
end
end Go.Proofs.YtpkkkhgmkndpdaaGreatDoor
namespace Go.Proofs.YtpkkkhgmkndpdaaGreatDoor
open Go Go.RowKit Go.MapKept
section
variable {P : Program} {kt : TypeId} {κ β : Type} {K : MK P kt κ} {V : β → Value} {w w' : World} {b : Nat} {l : List (κ × β)}
theorem Mp.same (h : Mp K V w b l) (hb : w'.heap[b]? = w.heap[b]?) : Mp K V w' b l := by
  obtain ⟨es, c, h1, h2, h3⟩ := h
  exact ⟨es, c, hb.trans h1, h2, h3⟩
theorem mod_lists {es : Array MapEntry} {j : Nat} {e0 : MapEntry} (h2 : es[j]? = some e0) (g g' : MapEntry → MapEntry) (hg : g e0 = g' e0) : es.modify j g = es.modify j g' := by
  apply Array.ext_getElem?
  intro i
  rw [Array.getElem?_modify, Array.getElem?_modify]
  by_cases hij : j = i
  · subst hij; rw [if_pos rfl, if_pos rfl, h2, Option.map_some, Option.map_some, hg]
  · rw [if_neg hij, if_neg hij]
theorem mod_self {es : Array MapEntry} {j : Nat} {e0 : MapEntry} (h2 : es[j]? = some e0) (g : MapEntry → MapEntry) (hg : g e0 = e0) : es.modify j g = es := by
  apply Array.ext_getElem?
  intro i
  rw [Array.getElem?_modify]
  by_cases hij : j = i
  · subst hij; rw [if_pos rfl, h2, Option.map_some, hg]
  · rw [if_neg hij]
theorem born_idx {es : Array MapEntry} (hn : (es.toList.map (·.born)).Nodup) {j : Nat} {e0 : MapEntry} (h : es[j]? = some e0) : es.findIdx? (fun x => ((x.born : Nat) : Int) == ((e0.born : Nat) : Int)) = some j := by
  obtain ⟨hj, he⟩ := Array.getElem?_eq_some_iff.1 h
  rw [Array.findIdx?_eq_some_iff_getElem]
  refine ⟨hj, by rw [he]; simp, fun i hi hp => ?_⟩
  have h1 := List.pairwise_iff_getElem.1 hn i j (by simp; omega) (by simp; omega) hi
  simp only [List.getElem_map, Array.getElem_toList, he] at h1
  simp at hp
  exact h1 (by omega)
theorem Mp.entry (h : Mp K V w b l) {t et : TypeId} (ht : P.underlying t = some (.map kt et)) {z : β} (hz : ∀ u : World, (zeroValue et).run P u = .ok (V z) u) (k : κ) :
    ∃ (w1 : World) (st : Nat), (Instr.mapEntry t (.map (some b)) (K.of k)).run P w = .ok (.tuple #[V ((getM K.eq l k).getD z), .int .i64 (st : Int)]) w1 ∧
      (∃ l1, Mp K V w1 b l1 ∧ (getM K.eq l1 k).getD z = (getM K.eq l k).getD z) ∧ Keeps (fun i => i ≠ b) w w1 ∧ w1.heap.size = w.heap.size ∧
      ∀ (w2 : World) (v : β), w2.heap[b]? = w1.heap[b]? → ∃ w3, (Instr.entryStore t (.map (some b)) (.int .i64 (st : Int)) (V v)).run P w2 = .ok () w3 ∧ Mp K V w3 b (putM K.eq l k v) ∧ Keeps (fun i => i ≠ b) w2 w3 ∧ w3.heap.size = w2.heap.size := by
  have hput := fun v => h.put ht k v
  have hM := h
  obtain ⟨es, clock, hb, hs, he, hor⟩ := h.at_ k
  have hkeep : ∀ (W : World) (o0 o : Obj), W.heap[b]? = some o0 → Keeps (fun i => i ≠ b) W { W with heap := W.heap.setIfInBounds b o } := fun W o0 o hW =>
    ⟨rfl, rfl, rfl, by simp, fun i _ hne => (heap_set hW).2 i hne⟩
  obtain ⟨s1, s2, s3⟩ := id hs
  rcases hor with ⟨hg, hany, hf, hno⟩ | ⟨j, v0, hg, hlj, hf, e, hej, hek⟩
  · refine ⟨{ w with heap := w.heap.setIfInBounds b (.map (es.push { key := K.of k, val := V z, born := clock }) (clock + 1)) }, clock, ?_, ⟨l ++ [(k, z)], ⟨_, _, (heap_set hb).1, stamped_push hs hno, by simp [he]⟩, ?_⟩, hkeep _ _ _ hb, by simp, fun w2 v hw2 => ?_⟩
    · rw [hg]
      simp [Instr.mapEntry, run_underlying ht, MapKept.run_getObj_map hb, K.check, hf, hz, MapKept.run_setObj_map _ hb, Result.andThen, goInt]
    · rw [hg, ← putM_new K hg, getM_putM_self]; rfl
    · have hw2' : w2.heap[b]? = some (.map (es.push { key := K.of k, val := V z, born := clock }) (clock + 1)) := hw2.trans (heap_set hb).1
      have hidx : (es.push ⟨K.of k, V z, clock⟩).findIdx? (fun e => ((e.born : Nat) : Int) == ((clock : Nat) : Int)) = some es.size := by
        exact born_idx (e0 := ⟨K.of k, V z, clock⟩) (stamped_push hs hno).2.1 (by simp)
      have hmod : (es.push ⟨K.of k, V z, clock⟩).modify es.size (fun e => { e with val := V v }) = es.push ⟨K.of k, V v, clock⟩ := by
        apply Array.ext_getElem?
        intro i
        rw [Array.getElem?_modify, Array.getElem?_push, Array.getElem?_push]
        by_cases hi : i = es.size
        · subst hi; rw [if_pos rfl, if_pos rfl, if_pos rfl]; rfl
        · rw [if_neg hi, if_neg hi, if_neg (fun h => hi h.symm)]
      refine ⟨{ w2 with heap := w2.heap.setIfInBounds b (.map (es.push ⟨K.of k, V v, clock⟩) (clock + 1)) }, ?_, ?_, hkeep _ _ _ hw2', by simp⟩
      · simp [Instr.entryStore, MapKept.run_getObj_map hw2', asInt, asIntOf, hidx, hmod, MapKept.run_setObj_map _ hw2', Result.andThen]
      · rw [putM_new K hg]
        exact ⟨_, _, (heap_set hw2').1, stamped_push hs hno, by simp [he]⟩
  · have hka : es[j]? = some e := by rw [← Array.getElem?_toList]; exact hej
    have hsame : es.modify j (fun e => { e with key := K.of k }) = es := mod_self hka _ (by rw [← hek])
    refine ⟨{ w with heap := w.heap.setIfInBounds b (.map es clock) }, e.born, ?_, ⟨l, ⟨_, _, (heap_set hb).1, hs, he⟩, rfl⟩, hkeep _ _ _ hb, by simp, fun w2 v hw2 => ?_⟩
    · rw [hg]
      simp [Instr.mapEntry, run_underlying ht, MapKept.run_getObj_map hb, K.check, hf, hka, hek, K.stays, hsame, MapKept.run_setObj_map _ hb, Result.andThen, goInt]
    · have hw2' : w2.heap[b]? = some (.map es clock) := hw2.trans (heap_set hb).1
      have hidx : es.findIdx? (fun x => ((x.born : Nat) : Int) == ((e.born : Nat) : Int)) = some j := by
        exact born_idx s2 hka
      have hmod : es.modify j (fun x => { x with val := V v }) = es.modify j (fun x => { x with key := K.of k, val := V v }) := mod_lists hka _ _ (by rw [← hek])
      refine ⟨{ w2 with heap := w2.heap.setIfInBounds b (.map (es.modify j (fun x => { x with key := K.of k, val := V v })) clock) }, ?_, ?_, hkeep _ _ _ hw2', by simp⟩
      · simp [Instr.entryStore, MapKept.run_getObj_map hw2', asInt, asIntOf, hidx, hmod, MapKept.run_setObj_map _ hw2', Result.andThen]
      · obtain ⟨wp, hrun, hmp, _, _⟩ := hput v
        have hrun2 : (Instr.mapUpdate t (.map (some b)) (K.of k) (V v)).run P w = .ok () { w with heap := w.heap.setIfInBounds b (.map (es.modify j fun e => { e with key := K.of k, val := V v }) clock) } := by
          simp [Instr.mapUpdate, run_underlying ht, MapKept.run_getObj_map hb, K.check, hf, MapKept.run_setObj_map _ hb, Result.andThen, hka, hek, K.stays]
        rw [hrun2] at hrun
        injection hrun with _ hW
        rw [← hW] at hmp
        exact hmp.same (by rw [(heap_set hw2').1]; exact (heap_set hb).1.symm)
end
end Go.Proofs.YtpkkkhgmkndpdaaGreatDoor
namespace Go.Proofs.YtpkkkhgmkndpdaaGreatDoor
open Go Go.RowKit Go.MapKept
section
variable {η η' α β : Type} {O : Ob η α} {O' : Ob η' β} {w W : World} {h : η × η'} {fp : List Nat} {a : α × β}
theorem PairAt.focus1 (h0 : (pairOb O O').rep w h fp a) : ∃ f, O.rep w h.1 f a.1 ∧ (∀ g ∈ f, g ∈ fp) ∧
    ∀ (W : World) (x' : η) (f1 : List Nat) (u' : α), O.rep W x' f1 u' → Turned f f1 w W → ∃ fp', (pairOb O O').rep W (x', h.2) fp' (u', a.2) ∧ Turned fp fp' w W := by
  obtain ⟨f, f', h1, h2, rfl, hn⟩ := h0
  refine ⟨f, h1, fun g hg => List.mem_append.2 (.inl hg), fun W x' f1 u' hr ht => ?_⟩
  exact ⟨_, PairAt.fst (O := O) (O' := O') h2 hn hr ht⟩
theorem PairAt.focus2 (h0 : (pairOb O O').rep w h fp a) : ∃ f, O'.rep w h.2 f a.2 ∧ (∀ g ∈ f, g ∈ fp) ∧
    ∀ (W : World) (x' : η') (f1 : List Nat) (u' : β), O'.rep W x' f1 u' → Turned f f1 w W → ∃ fp', (pairOb O O').rep W (h.1, x') fp' (a.1, u') ∧ Turned fp fp' w W := by
  obtain ⟨f, f', h1, h2, rfl, hn⟩ := h0
  refine ⟨f', h2, fun g hg => List.mem_append.2 (.inr hg), fun W x' f1 u' hr ht => ?_⟩
  exact ⟨_, PairAt.snd (O := O) (O' := O') h1 hn hr ht⟩
end
section
variable {η α β : Type} {t : TypeId} {C : α → η → Array Value} {O : Ob η β} {sub : α → β} {w w' : World} {b : Nat} {fp : List Nat} {a : α}
/-- What hangs on a block, and the way back: in place; or by a store of its new handle. -/
theorem BoxAt.focus (h0 : BoxAt t C O sub w b fp a) : ∃ (h : η) (f : List Nat), w.heap[b]? = some (.cells (C a h) t) ∧ O.rep w h f (sub a) ∧ (∀ g ∈ f, g ∈ fp) ∧ b ∉ f ∧ b ∈ fp ∧ b < w.heap.size ∧
    (∀ (W : World) (f' : List Nat) (a' : α), O.rep W h f' (sub a') → Turned f f' w W → C a' h = C a h → ∃ fp', BoxAt t C O sub W b fp' a' ∧ Turned fp fp' w W) ∧
    (∀ (W : World) (h' : η) (f' : List Nat) (a' : α) (C' : Array Value), O.rep W h' f' (sub a') → Turned f f' w W → C a' h' = C' →
      ∀ W' : World, W'.heap[b]? = some (.cells C' t) → Keeps (fun g => g ≠ b) W W' → ∃ fp', BoxAt t C O sub W' b fp' a' ∧ Turned fp fp' w W') := by
  obtain ⟨h, f, h1, h2, rfl, h5⟩ := h0
  have hbl : b < w.heap.size := (Array.getElem?_eq_some_iff.1 h1).1
  have hbf := (List.nodup_cons.1 h5).1
  refine ⟨h, f, h1, h2, fun g hg => List.mem_cons_of_mem _ hg, hbf, by simp, hbl, fun W f' a' hr ht hC => ⟨_, BoxAt.turn h1 hbf hr ht hC⟩, fun W h' f' a' C' hr ht hC W' hb' hk => ?_⟩
  have hbf' : b ∉ f' := fun hm => by
    rcases ht.grew b hm with h9 | h9
    · exact hbf h9
    · omega
  refine ⟨b :: f', ⟨h', f', by rw [hC]; exact hb', O.keep hr (hk.mono fun g _ hg e => hbf' (e ▸ hg)), rfl, List.nodup_cons.2 ⟨hbf', O.nd hr⟩⟩, ⟨?_, fun g hg => ?_⟩⟩
  · exact Keeps.then_ (ht.wide (fun g hg => List.mem_cons_of_mem _ hg)) hk (fun g _ hg e => hg (by rw [e]; simp))
  · rcases List.mem_cons.1 hg with rfl | hg
    · exact .inl (by simp)
    · rcases ht.grew g hg with h9 | h9
      · exact .inl (List.mem_cons_of_mem _ h9)
      · exact .inr h9
end
/-- A map of plain values that was written to, and nothing else. -/
theorem mp_turned {m : Nat} {w W : World} (h : Keeps (fun g => g ≠ m) w W) : Turned [m] [m] w W := ⟨h.mono (fun g _ hg e => hg (by simp [e])), fun g hg => .inl hg⟩
theorem Turned.ext_l {fp fp' : List Nat} {a b c : World} (hx : Ext a b) (h : Turned fp fp' b c) : Turned fp fp' a c := (Turned.of_ext hx).trans h
theorem Turned.ext_r {fp fp' : List Nat} {a b c : World} (h : Turned fp fp' a b) (hx : Ext b c) : Turned fp fp' a c := h.trans (Turned.of_ext hx)
end Go.Proofs.YtpkkkhgmkndpdaaGreatDoor
namespace Go.Proofs.YtpkkkhgmkndpdaaGreatDoor
open Go Go.RowKit Go.MapKept
section
variable {P : Program} {kt : TypeId} {κ η α : Type} {K : MK P kt κ} {V : η → Value} {O : Ob η α}
/-- The object of a key put anew: f0 is what it stood on. -/
theorem MapOf.set {w W : World} {m : Nat} {es : List (κ × η × List Nat × α)} (h1 : Mp K V w m (es.map fun e => (e.1, e.2.1))) (h3 : ∀ e ∈ es, O.rep w e.2.1 e.2.2.1 e.2.2.2) (h5 : (m :: es.flatMap (fun e => e.2.2.1)).Nodup) (k : κ) (f0 : List Nat) (hf0 : f0 = ((es.find? (fun e => K.eq k e.1)).map (fun e => e.2.2.1)).getD [])
    (hW : Keeps (fun g => g ∉ f0 ∧ g ≠ m) w W) {x' : η} {f' : List Nat} {a' : α} (hr : O.rep W x' f' a') (hg : ∀ g ∈ f', g ∈ f0 ∨ w.heap.size ≤ g) (hmp : Mp K V W m (putM K.eq (es.map fun e => (e.1, e.2.1)) k x')) :
    ∃ fp', MapOf K V O W m fp' (putM K.eq (es.map fun e => (e.1, e.2.2.2)) k a') ∧ Turned (m :: es.flatMap (fun e => e.2.2.1)) fp' w W := by
  have hkeys := h1.keys
  have hlt : ∀ g ∈ m :: es.flatMap (fun e => e.2.2.1), g < w.heap.size := MapOf.lt (L := es.map (fun e => (e.1, e.2.2.2))) ⟨_, h1, rfl, h3, rfl, h5⟩
  have hml : m < w.heap.size := hlt m (by simp)
  cases hf : es.find? (fun e => K.eq k e.1) with
  | none =>
    rw [hf] at hf0
    obtain rfl : f0 = [] := hf0
    have hg1 : getM K.eq (es.map fun e => (e.1, e.2.1)) k = none := by rw [getM_map K.eq (fun e : η × List Nat × α => e.1)]; unfold getM; rw [hf]; rfl
    have hg2 : getM K.eq (es.map fun e => (e.1, e.2.2.2)) k = none := by rw [getM_map K.eq (fun e : η × List Nat × α => e.2.2)]; unfold getM; rw [hf]; rfl
    rw [putM_new K hg1] at hmp
    have hgw : ∀ g ∈ f', w.heap.size ≤ g := fun g hm => by rcases hg g hm with h | h; cases h; exact h
    refine ⟨m :: (es.flatMap (fun e => e.2.2.1) ++ f'), ⟨es ++ [(k, x', f', a')], by simpa using hmp, by rw [putM_new K hg2]; simp, ?_, by simp, ?_⟩, ⟨?_, ?_⟩⟩
    · intro e he
      rcases List.mem_append.1 he with he | he
      · refine O.keep (h3 e he) (hW.mono fun g _ hg => ⟨by simp, fun e2 => ?_⟩)
        rw [List.nodup_cons] at h5
        exact h5.1 (List.mem_flatMap.2 ⟨e, he, e2 ▸ hg⟩)
      · rw [List.mem_singleton.1 he]; exact hr
    · rw [List.nodup_cons, List.nodup_append] at *
      refine ⟨fun hm => ?_, h5.2, O.nd hr, fun g hg9 y hy e => ?_⟩
      · rcases List.mem_append.1 hm with hm | hm
        · exact h5.1 hm
        · have := hgw m hm; omega
      · have := hlt g (by simp [hg9]); have := hgw y hy; omega
    · exact hW.mono fun g _ hn => ⟨by simp, fun e => hn (by rw [e]; simp)⟩
    · intro g hm
      simp only [List.mem_cons, List.mem_append] at hm ⊢
      rcases hm with h9 | h9 | h9
      · exact .inl (.inl h9)
      · exact .inl (.inr h9)
      · exact .inr (hgw g h9)
  | some e =>
    obtain ⟨pre, post, rfl, hpre, hek⟩ := find_split _ _ hf
    obtain ⟨k', x, f, a⟩ := e
    obtain rfl : k = k' := (K.eq_iff _ _).1 hek
    rw [hf] at hf0
    obtain rfl : f0 = f := hf0
    have hk2 : ((pre ++ (k, x, f0, a) :: post).map (·.1)).Nodup := by simpa [List.map_map, Function.comp_def] using hkeys
    have hfl : (pre ++ (k, x, f0, a) :: post).flatMap (fun e => e.2.2.1) = pre.flatMap (fun e => e.2.2.1) ++ (f0 ++ post.flatMap (fun e => e.2.2.1)) := by simp
    have hput : putM K.eq ((pre ++ (k, x, f0, a) :: post).map (fun e => (e.1, e.2.2.2))) k a' = (pre.map fun e => (e.1, e.2.2.2)) ++ (k, a') :: (post.map fun e => (e.1, e.2.2.2)) := by
      rw [List.map_append, List.map_cons]
      refine putM_split K ?_
      simpa [List.map_map, Function.comp_def] using hk2
    have hput2 : putM K.eq ((pre ++ (k, x, f0, a) :: post).map (fun e => (e.1, e.2.1))) k x' = (pre.map fun e => (e.1, e.2.1)) ++ (k, x') :: (post.map fun e => (e.1, e.2.1)) := by
      rw [List.map_append, List.map_cons]
      refine putM_split K ?_
      simpa [List.map_map, Function.comp_def] using hk2
    rw [hput2] at hmp
    have hmf : m ∉ f0 := fun hm => by
      rw [List.nodup_cons, hfl] at h5
      exact h5.1 (by simp [hm])
    have hother : ∀ e ∈ pre ++ post, ∀ g ∈ e.2.2.1, g ∉ f0 ∧ g ≠ m := fun e he g hg => by
      have h6 := h5
      rw [hfl, List.nodup_cons, List.nodup_append, List.nodup_append] at h6
      obtain ⟨q1, _, ⟨_, _, q5⟩, q6⟩ := h6
      have hgm : g ∈ pre.flatMap (fun e => e.2.2.1) ++ (f0 ++ post.flatMap (fun e => e.2.2.1)) := by
        rcases List.mem_append.1 he with he | he
        · exact List.mem_append.2 (.inl (List.mem_flatMap.2 ⟨e, he, hg⟩))
        · exact List.mem_append.2 (.inr (List.mem_append.2 (.inr (List.mem_flatMap.2 ⟨e, he, hg⟩))))
      refine ⟨fun hgf => ?_, fun e2 => q1 (e2 ▸ hgm)⟩
      rcases List.mem_append.1 he with he | he
      · exact q6 g (List.mem_flatMap.2 ⟨e, he, hg⟩) g (by simp [hgf]) rfl
      · exact q5 g hgf g (List.mem_flatMap.2 ⟨e, he, hg⟩) rfl
    refine ⟨m :: (pre.flatMap (fun e => e.2.2.1) ++ (f' ++ post.flatMap (fun e => e.2.2.1))), ⟨pre ++ (k, x', f', a') :: post, by simpa using hmp, by rw [hput]; simp, ?_, by simp, ?_⟩, ⟨?_, ?_⟩⟩
    · intro e he
      rcases List.mem_append.1 he with he | he
      · exact O.keep (h3 e (by simp [he])) (hW.mono fun g _ hg => hother e (by simp [he]) g hg)
      · rcases List.mem_cons.1 he with rfl | he
        · exact hr
        · exact O.keep (h3 e (by simp [he])) (hW.mono fun g _ hg => hother e (by simp [he]) g hg)
    · have h6 := h5
      rw [hfl] at h6 hlt
      rw [List.nodup_cons, List.nodup_append, List.nodup_append] at h6 ⊢
      obtain ⟨q1, q2, ⟨q3, q4, q5⟩, q6⟩ := h6
      refine ⟨fun hm => ?_, q2, ⟨O.nd hr, q4, fun g hg9 y hy e => ?_⟩, fun g hg9 y hy e => ?_⟩
      · rcases List.mem_append.1 hm with hm | hm
        · exact q1 (by simp [hm])
        · rcases List.mem_append.1 hm with hm | hm
          · rcases hg m hm with h9 | h9
            · exact hmf h9
            · omega
          · exact q1 (by simp [hm])
      · rcases hg g hg9 with h9 | h9
        · exact q5 g h9 y hy e
        · have := hlt y (by simp [hy]); omega
      · rcases List.mem_append.1 hy with hy | hy
        · rcases hg y hy with h9 | h9
          · exact q6 g hg9 y (by simp [h9]) e
          · have := hlt g (by simp [hg9]); omega
        · exact q6 g hg9 y (by simp [hy]) e
    · exact hW.mono fun g _ hn => ⟨fun hgf => hn (by rw [hfl]; simp [hgf]), fun e => hn (by rw [e]; simp)⟩
    · intro g hm
      rw [hfl]
      simp only [List.mem_cons, List.mem_append] at hm ⊢
      rcases hm with h9 | h9 | h9 | h9
      · exact .inl (.inl h9)
      · exact .inl (.inr (.inl h9))
      · rcases hg g h9 with h8 | h8
        · exact .inl (.inr (.inr (.inl h8)))
        · exact .inr h8
      · exact .inl (.inr (.inr (.inr h9)))
end
/-- An entry of a map of rows: made or found; and stored to, when the row has grown. -/
theorem rows_entry {P : Program} {kt : TypeId} {κ α : Type} {K : MK P kt κ} {R : Rep α} {t : TypeId} {w : World} {m : Nat} {f : List Nat} {L : List (κ × List α)} (h : MapOf K (fun v : Value => v) (rowOb R t) w m f L) (k : κ) {mt et : TypeId} (ht : P.underlying mt = some (.map kt et)) (hz : ∀ u : World, (zeroValue et).run P u = .ok (.slice none 0 0) u) :
    ∃ (w1 : World) (st : Nat) (v : Value) (fs : List Nat), (Instr.mapEntry mt (.map (some m)) (K.of k)).run P w = .ok (.tuple #[v, .int .i64 (st : Int)]) w1 ∧ RowAt R t w1 v fs ((getM K.eq L k).getD []) ∧ (∀ g ∈ v.ownBlock.toList ++ fs, g ∈ f) ∧ m ∉ v.ownBlock.toList ++ fs ∧ Keeps (fun g => g ≠ m) w w1 ∧ w1.heap.size = w.heap.size ∧
      ∀ (W : World) (v' : Value) (fs' : List Nat) (l' : List α), RowAt R t W v' fs' l' → Turned (v.ownBlock.toList ++ fs) (v'.ownBlock.toList ++ fs') w1 W →
        ∃ W' f', (Instr.entryStore mt (.map (some m)) (.int .i64 (st : Int)) v').run P W = .ok () W' ∧ MapOf K (fun v : Value => v) (rowOb R t) W' m f' (putM K.eq L k l') ∧ Turned f f' w W' ∧ Keeps (fun g => g ≠ m) W W' := by
  obtain ⟨es, h1, rfl, h3, rfl, h5⟩ := h
  have hlt : ∀ g ∈ m :: es.flatMap (fun e => e.2.2.1), g < w.heap.size := MapOf.lt (K := K) (O := rowOb R t) (L := es.map (fun e => (e.1, e.2.2.2))) ⟨_, h1, rfl, h3, rfl, h5⟩
  have hml : m < w.heap.size := hlt m (by simp)
  obtain ⟨w1, st, hrun, _, hk1, hsz, hstore⟩ := h1.entry ht (z := .slice none 0 0) hz k
  have hgL : getM K.eq (es.map fun e => (e.1, e.2.2.2)) k = (es.find? (fun e => K.eq k e.1)).map (fun e => e.2.2.2) := by rw [getM_map K.eq (fun e : Value × List Nat × List α => e.2.2)]; unfold getM; rw [Option.map_map]; rfl
  have hgV : getM K.eq (es.map fun e => (e.1, e.2.1)) k = (es.find? (fun e => K.eq k e.1)).map (fun e => e.2.1) := by rw [getM_map K.eq (fun e : Value × List Nat × List α => e.1)]; unfold getM; rw [Option.map_map]; rfl
  have main : ∃ (v : Value) (fs : List Nat), v = (getM K.eq (es.map fun e => (e.1, e.2.1)) k).getD (.slice none 0 0) ∧ RowAt R t w1 v fs ((getM K.eq (es.map fun e => (e.1, e.2.2.2)) k).getD []) ∧ v.ownBlock.toList ++ fs = ((es.find? (fun e => K.eq k e.1)).map (fun e => e.2.2.1)).getD [] ∧ (∀ g ∈ v.ownBlock.toList ++ fs, g ∈ m :: es.flatMap (fun e => e.2.2.1)) ∧ m ∉ v.ownBlock.toList ++ fs := by
    rw [hgL, hgV]
    cases hf : es.find? (fun e => K.eq k e.1) with
    | none => exact ⟨.slice none 0 0, [], rfl, RowAt.nil_ R t w1, by simp [Value.ownBlock], by simp [Value.ownBlock], by simp [Value.ownBlock]⟩
    | some e =>
      have hem := List.mem_of_find?_eq_some hf
      obtain ⟨fs, hr, he⟩ := h3 e hem
      have hsub : ∀ g ∈ e.2.2.1, g ∈ es.flatMap (fun e => e.2.2.1) := fun g hg => List.mem_flatMap.2 ⟨e, hem, hg⟩
      have hm9 : m ∉ e.2.2.1 := fun hm => (List.nodup_cons.1 h5).1 (hsub m hm)
      refine ⟨e.2.1, fs, rfl, hr.keep (hk1.mono fun g _ hg e9 => hm9 (by rw [he]; exact e9 ▸ hg)), he.symm, fun g hg => List.mem_cons_of_mem _ (hsub g (by rw [he]; exact hg)), by rw [← he]; exact hm9⟩
  obtain ⟨v, fs, hv, hrow, hff, hsub, hm⟩ := main
  refine ⟨w1, st, v, fs, by rw [hv]; exact hrun, hrow, hsub, hm, hk1, hsz, fun W v' fs' l' hr htu => ?_⟩
  have hmW : W.heap[m]? = w1.heap[m]? := htu.keeps.block m (by omega) hm
  obtain ⟨W', hrun', hmp', hk', hsz'⟩ := hstore W v' hmW
  have hm' : m ∉ v'.ownBlock.toList ++ fs' := fun h9 => by
    rcases htu.grew m h9 with h8 | h8
    · exact hm h8
    · omega
  obtain ⟨fp', hmo, htt⟩ := MapOf.set (W := W') (f' := v'.ownBlock.toList ++ fs') (a' := l') h1 h3 h5 k (v.ownBlock.toList ++ fs) hff (Keeps.then_ (Keeps.then_ (ok := fun g => g ∉ v.ownBlock.toList ++ fs ∧ g ≠ m) (hk1.mono fun _ _ h => h.2) htu.keeps (fun _ _ h => h.1)) hk' (fun _ _ h => h.2)) ⟨fs', hr.keep (hk'.mono fun g _ hg e9 => hm' (e9 ▸ hg)), rfl⟩ (fun g hg => by rcases htu.grew g hg with h9 | h9; exact .inl h9; exact .inr (by omega)) hmp'
  exact ⟨W', fp', hrun', hmo, htt, hk'⟩
end Go.Proofs.YtpkkkhgmkndpdaaGreatDoor
