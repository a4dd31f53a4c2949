/-
  What is proved here: small laws on worlds, footprints, and slices that read as lists. No program is in sight. No condition.
  the plain functions that the program computes (names, hashes, entries of an audit), and how an entry lies in memory. No condition.
  more small laws on slices. No program is in sight. No condition.
  a region that draws its order, whose operations only read old memory, and whose callees make new memory at most and hand back one value: one walk of the text's order serves every order. No condition.
-/
import Derived.WalkKit
import Derived.WalkLawsBesides
import Derived.WalkSpells
import Derived.Lib.Hide
import Derived.Deep.Draws
import Derived.Deep.AppendLies
import Derived.Maps.AppendAt
import Derived.Deep.QuietTactic
import Derived.BigQuiet
namespace Go.Proofs.YtpkkkhgmkndpdaaGreatDoor
open Go Go.RowKit

/-! ### addresses -/
theorem add_block (a : Addr) (n : Nat) : (a.add n).block = a.block := by unfold Addr.add; split <;> rfl
theorem add_add' (a : Addr) (i j : Nat) : (a.add i).add j = a.add (i + j) := by
  unfold Addr.add
  by_cases hi : i = 0 <;> by_cases hj : j = 0 <;> simp [hi, hj, Nat.add_assoc]
theorem add_zero' (a : Addr) : a.add 0 = a := by simp [Addr.add]

/-! ### one world goes on as another: blocks that are 'ok' stay -/
structure Keeps (ok : Nat → Prop) (w w' : World) : Prop where
  os : w'.os = w.os
  tape : w'.tape = w.tape
  output : w'.output = w.output
  size : w.heap.size ≤ w'.heap.size
  block : ∀ k, k < w.heap.size → ok k → w'.heap[k]? = w.heap[k]?

theorem Keeps.refl (ok : Nat → Prop) (w : World) : Keeps ok w w := ⟨rfl, rfl, rfl, Nat.le_refl _, fun _ _ _ => rfl⟩
theorem Keeps.trans {ok : Nat → Prop} {a b c : World} (h : Keeps ok a b) (k : Keeps ok b c) : Keeps ok a c :=
  ⟨k.os.trans h.os, k.tape.trans h.tape, k.output.trans h.output, Nat.le_trans h.size k.size, fun i hi ho => (k.block i (Nat.lt_of_lt_of_le hi h.size) ho).trans (h.block i hi ho)⟩
theorem Keeps.mono {ok ok' : Nat → Prop} {w w' : World} (h : Keeps ok w w') (hm : ∀ k, k < w.heap.size → ok' k → ok k) : Keeps ok' w w' :=
  ⟨h.os, h.tape, h.output, h.size, fun k hk ho => h.block k hk (hm k hk ho)⟩
theorem Keeps.then_ {ok ok' : Nat → Prop} {a b c : World} (h : Keeps ok a b) (k : Keeps ok' b c) (hm : ∀ i, i < a.heap.size → ok i → ok' i) : Keeps ok a c :=
  ⟨k.os.trans h.os, k.tape.trans h.tape, k.output.trans h.output, Nat.le_trans h.size k.size, fun i hi ho => (k.block i (Nat.lt_of_lt_of_le hi h.size) (hm i hi ho)).trans (h.block i hi ho)⟩
theorem Keeps.drew {ok : Nat → Prop} {a w : World} (h : Keeps ok a w) : Keeps ok a w.drew := ⟨h.os, h.tape, h.output, h.size, h.block⟩
theorem Keeps.drewN {ok : Nat → Prop} {a w : World} (h : Keeps ok a w) (n : Nat) : Keeps ok a (w.drewN n) := ⟨h.os, h.tape, h.output, h.size, h.block⟩
theorem Keeps.alloc {ok : Nat → Prop} {a w : World} (h : Keeps ok a w) (o : Obj) : Keeps ok a (w.alloc o) :=
  ⟨h.os, h.tape, h.output, Nat.le_trans h.size (by simp), fun i hi ho => (Below.heap_alloc w o i (Nat.lt_of_lt_of_le hi h.size)).trans (h.block i hi ho)⟩
theorem Keeps.setCell {ok : Nat → Prop} {a w : World} (h : Keeps ok a w) {p : Addr} (hp : p.block < a.heap.size → ¬ ok p.block) (u : Value) : Keeps ok a (w.setCell p u) :=
  ⟨h.os, h.tape, h.output, by simpa [World.setCell] using h.size, fun i hi ho => (Below.heap_setCell w p u i (by rintro rfl; exact hp hi ho)).trans (h.block i hi ho)⟩
theorem Keeps.grown {ok : Nat → Prop} {a w w' : World} {row : Option Nat} (h : Keeps ok a w) (hg : w.grownBy w' row) (hr : ∀ k, row = some k → k < a.heap.size → ¬ ok k) : Keeps ok a w' :=
  ⟨hg.os.trans h.os, hg.tape.trans h.tape, hg.output.trans h.output, Nat.le_trans h.size hg.size, fun i hi ho =>
    (hg.block i (Nat.lt_of_lt_of_le hi h.size) (fun e => hr i e.symm hi ho)).trans (h.block i hi ho)⟩
theorem Keeps.cell {ok : Nat → Prop} {w w' : World} (h : Keeps ok w w') {p : Addr} (hp : p.block < w.heap.size) (ho : ok p.block) : w'.cell? p = w.cell? p := World.cell?_of_block (h.block p.block hp ho)
theorem Keeps.frozen {ok : Nat → Prop} {w w' : World} (h : Keeps ok w w') {p : Addr} (hp : p.block < w.heap.size) (ho : ok p.block) : w'.frozen? p = w.frozen? p := World.frozen?_of_block (h.block p.block hp ho)

/-- All that was there stays. -/
abbrev Ext (w w' : World) : Prop := Keeps (fun _ => True) w w'
theorem Ext.cells {w w' : World} (h : Ext w w') : ∀ p : Addr, p.block < w.heap.size → w'.cell? p = w.cell? p := fun _ hp => h.cell hp trivial
theorem Ext.frozens {w w' : World} (h : Ext w w') : ∀ p : Addr, p.block < w.heap.size → w'.frozen? p = w.frozen? p := fun _ hp => h.frozen hp trivial
theorem Ext.of_below {w w' : World} (h : Below w.heap.size w w') : Ext w w' := ⟨h.os, h.tape, h.output, h.size, fun k hk _ => h.block k hk⟩
theorem Ext.below {w w' : World} (h : Ext w w') : Below w.heap.size w w' := ⟨h.os, h.tape, h.output, h.size, fun k hk => h.block k hk trivial⟩
theorem Ext.of_drewN (w : World) (n : Nat) : Ext w (w.drewN n) := (Keeps.refl _ w).drewN n
theorem Ext.keeps {w w' : World} (h : Ext w w') (ok : Nat → Prop) : Keeps ok w w' := h.mono fun _ _ _ => trivial

/-! ### blocks known whole -/
theorem Keeps.blk {ok : Nat → Prop} {w w' : World} (h : Keeps ok w w') {g : Nat} {o : Obj} (hg : w.heap[g]? = some o) (ho : ok g) : w'.heap[g]? = some o :=
  (h.block g (Array.getElem?_eq_some_iff.1 hg).1 ho).trans hg
theorem Ext.blk {w w' : World} (h : Ext w w') {g : Nat} {o : Obj} (hg : w.heap[g]? = some o) : w'.heap[g]? = some o := Keeps.blk h hg trivial
theorem blk_new (w : World) (o : Obj) : (w.alloc o).heap[w.heap.size]? = some o := heap_alloc_new w o
theorem blk_old {w : World} {g : Nat} {x : Obj} (h : w.heap[g]? = some x) (o : Obj) : (w.alloc o).heap[g]? = some x :=
  (Below.heap_alloc w o g (Array.getElem?_eq_some_iff.1 h).1).trans h
theorem blk_cell {w : World} {g : Nat} {C : Array Value} {t : TypeId} {fr : Nat × Nat} (h : w.heap[g]? = some (.cells C t fr)) (j : Nat) {v : Value} (hj : C[j]? = some v) : w.cell? ⟨g, j, none⟩ = some v := by
  simp [World.cell?, h, hj]
theorem blk_free {w : World} {g : Nat} {C : Array Value} {t : TypeId} (h : w.heap[g]? = some (.cells C t (0, 0))) (j : Nat) : w.frozen? ⟨g, j, none⟩ = false := by
  simp [World.frozen?, h]
theorem blk_set {w : World} {g : Nat} {C : Array Value} {t : TypeId} {fr : Nat × Nat} (h : w.heap[g]? = some (.cells C t fr)) (j : Nat) (v : Value) : (w.setCell ⟨g, j, none⟩ v).heap[g]? = some (.cells (C.setIfInBounds j v) t fr) := by
  simp [World.setCell, Array.getElem?_modify, h]
theorem blk_far {w : World} {g : Nat} {o : Obj} (h : w.heap[g]? = some o) {p : Addr} (hp : g ≠ p.block) (v : Value) : (w.setCell p v).heap[g]? = some o := (Below.heap_setCell w p v g hp).trans h

/-! ### what a region that draws its order holds on to: old cells -/
abbrev Old (w w' : World) : Prop := w.heap.size ≤ w'.heap.size ∧ ∀ p : Addr, p.block < w.heap.size → w'.cell? p = w.cell? p
theorem Old.refl (w : World) : Old w w := ⟨Nat.le_refl _, fun _ _ => rfl⟩
theorem Old.drew {w X : World} (h : Old w X) : Old w X.drew := h
theorem Old.drewN {w X : World} (h : Old w X) (n : Nat) : Old w (X.drewN n) := h
theorem Old.alloc {w X : World} (h : Old w X) (o : Obj) : Old w (X.alloc o) := ⟨Nat.le_trans h.1 (by simp), fun p hp => (World.cell?_alloc_lt X o p (Nat.lt_of_lt_of_le hp h.1)).trans (h.2 p hp)⟩
theorem Old.ext {w X Y : World} (h : Old w X) (k : Ext X Y) : Old w Y := ⟨Nat.le_trans h.1 k.size, fun p hp => (k.cell (Nat.lt_of_lt_of_le hp h.1) trivial).trans (h.2 p hp)⟩
theorem Old.of_ext {w X : World} (h : Ext w X) : Old w X := (Old.refl w).ext h
theorem Old.setCell {w X : World} (h : Old w X) {a : Addr} (ha : w.heap.size ≤ a.block) (u : Value) : Old w (X.setCell a u) :=
  ⟨Nat.le_trans h.1 (by simp [World.setCell]), fun p hp => (World.cell?_setCell_other X a p u (by rintro rfl; omega)).trans (h.2 p hp)⟩
theorem Old.grown {w X Y : World} {row : Option Nat} (h : Old w X) (k : X.grownBy Y row) (hr : ∀ g, row = some g → w.heap.size ≤ g) : Old w Y :=
  ⟨Nat.le_trans h.1 k.size, fun p hp => (World.cell?_of_block (k.block p.block (Nat.lt_of_lt_of_le hp h.1) (fun e => by have := hr _ e.symm; omega))).trans (h.2 p hp)⟩

/-! ### a slice that reads as a list -/
/-- 'R ok w a xs': the cells xs are a; what they lead to lies in blocks that are ok. -/
structure Rep (α : Type) where
  size : Nat
  rep : (Nat → Prop) → World → α → List Value → Prop
  len : ∀ {ok : Nat → Prop} {w : World} {a : α} {xs : List Value}, rep ok w a xs → xs.length = size
  one : ∀ {ok : Nat → Prop} {w : World} {a : α} {xs : List Value}, rep ok w a xs → ∀ u ∈ xs, u.oneCell' = true
  keep : ∀ {ok : Nat → Prop} {w w' : World} {a : α} {xs : List Value}, Keeps ok w w' → rep ok w a xs → rep ok w' a xs
  mono : ∀ {ok ok' : Nat → Prop} {w : World} {a : α} {xs : List Value}, (∀ k, k < w.heap.size → ok k → ok' k) → rep ok w a xs → rep ok' w a xs

def Sl {α : Type} (R : Rep α) (ok : Nat → Prop) (w : World) (A : Option Addr) (n : Nat) (l : List α) : Prop :=
  l.length = n ∧ (0 < n → ∃ b o : Nat, A = some ⟨b, o, none⟩ ∧ b < w.heap.size ∧ ok b ∧
    ∀ (k : Nat) (a : α), l[k]? = some a → ∃ xs, R.rep ok w a xs ∧ ∀ (j : Nat) (u : Value), xs[j]? = some u → w.cell? ⟨b, o + k * R.size + j, none⟩ = some u)

section
variable {α : Type} {R : Rep α} {ok ok' : Nat → Prop} {w w' : World} {A : Option Addr} {n : Nat} {l : List α}
theorem Sl.nil_ : Sl R ok w A 0 [] := ⟨rfl, fun h => absurd h (by omega)⟩
theorem Sl.keep (h : Sl R ok w A n l) (hk : Keeps ok w w') : Sl R ok w' A n l :=
  ⟨h.1, fun hn => by
    obtain ⟨b, o, e, hb, ho, hc⟩ := h.2 hn
    exact ⟨b, o, e, Nat.lt_of_lt_of_le hb hk.size, ho, fun k a ha => by
      obtain ⟨xs, hr, hx⟩ := hc k a ha
      exact ⟨xs, R.keep hk hr, fun j u hu => (hk.cell (p := ⟨b, o + k * R.size + j, none⟩) hb ho).trans (hx j u hu)⟩⟩⟩
theorem Sl.ext (h : Sl R ok w A n l) (hk : Ext w w') : Sl R ok w' A n l := h.keep (hk.keeps ok)
theorem Sl.mono (h : Sl R ok w A n l) (hm : ∀ k, k < w.heap.size → ok k → ok' k) : Sl R ok' w A n l :=
  ⟨h.1, fun hn => by
    obtain ⟨b, o, e, hb, ho, hc⟩ := h.2 hn
    exact ⟨b, o, e, hb, hm _ hb ho, fun k a ha => by
      obtain ⟨xs, hr, hx⟩ := hc k a ha
      exact ⟨xs, R.mono hm hr, hx⟩⟩⟩
theorem Sl.drew (h : Sl R ok w A n l) : Sl R ok w.drew A n l := h.keep (Keeps.refl _ _).drew
theorem Sl.drewN (h : Sl R ok w A n l) (k : Nat) : Sl R ok (w.drewN k) A n l := h.keep ((Keeps.refl _ _).drewN k)
theorem Sl.alloc (h : Sl R ok w A n l) (o : Obj) : Sl R ok (w.alloc o) A n l := h.keep ((Keeps.refl _ _).alloc o)
theorem Sl.at_ (h : Sl R ok w A n l) {k : Nat} (hk : k < n) : ∃ (b o : Nat) (a : α) (xs : List Value), A = some ⟨b, o, none⟩ ∧ b < w.heap.size ∧ ok b ∧ l[k]? = some a ∧ R.rep ok w a xs ∧
    ∀ (j : Nat) (u : Value), xs[j]? = some u → w.cell? ⟨b, o + k * R.size + j, none⟩ = some u := by
  obtain ⟨b, o, e, hb, ho, hc⟩ := h.2 (by omega)
  have hl : k < l.length := by have := h.1; omega
  obtain ⟨xs, hr, hx⟩ := hc k l[k] (List.getElem?_eq_getElem hl)
  exact ⟨b, o, l[k], xs, e, hb, ho, List.getElem?_eq_getElem hl, hr, hx⟩
theorem ad_add (b o k : Nat) : (⟨b, o, none⟩ : Addr).add k = ⟨b, o + k, none⟩ := by
  unfold Addr.add
  by_cases h0 : k = 0 <;> simp [h0]
/-- 's[k:]' -/
theorem Sl.cut (h : Sl R ok w A n l) {k cap : Nat} (hk : k ≤ n) (hc : n ≤ cap) :
    Sl R ok w (if cap = k then A else A.map (·.add (k * R.size))) (n - k) (l.drop k) := by
  refine ⟨by rw [List.length_drop, h.1], fun hn => ?_⟩
  obtain ⟨b, o, rfl, hb, ho, hcell⟩ := h.2 (by omega)
  rw [if_neg (by omega)]
  refine ⟨b, o + k * R.size, by simp [ad_add], hb, ho, fun i a ha => ?_⟩
  obtain ⟨xs, hr, hx⟩ := hcell (k + i) a (by rw [← ha, List.getElem?_drop])
  refine ⟨xs, hr, fun j u hu => ?_⟩
  rw [← hx j u hu, Nat.add_mul, Nat.add_assoc o]
/-- 's[:k]' -/
theorem Sl.to_ (h : Sl R ok w A n l) {k : Nat} (hk : k ≤ n) : Sl R ok w A k (l.take k) := by
  refine ⟨by rw [List.length_take, h.1]; omega, fun hn => ?_⟩
  obtain ⟨b, o, rfl, hb, ho, hcell⟩ := h.2 (by omega)
  refine ⟨b, o, rfl, hb, ho, fun i a ha => hcell i a ?_⟩
  rw [List.getElem?_take] at ha
  split at ha
  · exact ha
  · cases ha
end

/-! ### a slice of the call's own -/
/-- What a slice's elements may lead to: blocks that are ok, and not its own row. -/
def off (ok : Nat → Prop) (v : Value) : Nat → Prop := fun k => ok k ∧ v.ownBlock ≠ some k
def Own {α : Type} (R : Rep α) (t : TypeId) (ok : Nat → Prop) (w : World) (base : Nat) (v : Value) (n : Nat) (l : List α) : Prop :=
  l.length = n ∧ ∃ xss : List (List Value), w.ownsRow base t R.size v n xss.flatten ∧ xss.length = n ∧ ∀ (k : Nat) (a : α) (xs : List Value), l[k]? = some a → xss[k]? = some xs → R.rep (off ok v) w a xs

section
variable {α : Type} {R : Rep α} {t : TypeId} {ok ok' : Nat → Prop} {w w' : World} {base : Nat} {v : Value} {n : Nat} {l : List α}
theorem flatten_at (xss : List (List Value)) (size : Nat) : ∀ (k : Nat) (xs : List Value), (∀ x ∈ xss, x.length = size) → xss[k]? = some xs → ∀ (j : Nat) (u : Value), xs[j]? = some u → xss.flatten[k * size + j]? = some u := by
  induction xss with
  | nil => intro k xs _ h; simp at h
  | cons x xss ih =>
    intro k xs hl h j u hu
    have hx := hl x (by simp)
    cases k with
    | zero =>
      simp at h; subst h
      have hj : j < x.length := (List.getElem?_eq_some_iff.1 hu).1
      simp only [List.flatten_cons, Nat.zero_mul, Nat.zero_add]
      rw [List.getElem?_append_left hj]; exact hu
    | succ k =>
      have := ih k xs (fun y hy => hl y (by simp [hy])) (by simpa using h) j u hu
      simp only [List.flatten_cons]
      rw [List.getElem?_append_right (by rw [hx, Nat.succ_mul]; omega), ← this]
      congr 1
      rw [hx, Nat.succ_mul]; omega
theorem Own.nil_ : Own R t ok w base (.slice none 0 0) 0 [] := ⟨rfl, [], World.ownsRow_nil _ _ _ _, rfl, fun _ _ _ h => by simp at h⟩
theorem Own.len (h : Own R t ok w base v n l) : l.length = n := h.1
theorem Own.form (h : Own R t ok w base v n l) : ∃ A c, v = .slice A n c := by
  obtain ⟨_, xss, ho, _⟩ := h
  rcases ho.2 with ⟨rfl, rfl⟩ | ⟨g, cap, cur, rfl, _⟩
  · exact ⟨_, _, rfl⟩
  · exact ⟨_, _, rfl⟩
theorem Own.parts (h : Own R t ok w base v n l) : ∀ x ∈ h.2.choose, x.length = R.size := by
  intro x hx
  have hs := h.2.choose_spec
  obtain ⟨k, hk, rfl⟩ := List.mem_iff_getElem.1 hx
  have hkl : k < l.length := by rw [h.1]; omega
  exact R.len (hs.2.2 k l[k] _ (List.getElem?_eq_getElem hkl) (List.getElem?_eq_getElem hk))
/-- It reads as a list, below whatever its row is. -/
theorem Own.sl {A : Option Addr} {c : Nat} (h : Own R t ok w base (.slice A n c) n l) (hok : ∀ g, base ≤ g → g < w.heap.size → (Value.slice A n c).ownBlock = some g → ok' g) (hm : ∀ k, k < w.heap.size → ok k → ok' k) : Sl R ok' w A n l := by
  have hp := h.parts
  refine ⟨h.1, fun hn => ?_⟩
  have hs := h.2.choose_spec
  generalize h.2.choose = xss at *
  obtain ⟨ho, hx, hr⟩ := hs
  rcases ho.2 with ⟨_, h0⟩ | ⟨g, cap, cur, hv, hb, hg, hnc, hcm, hcs, htk⟩
  · omega
  · injection hv with hA _ _
    subst hA
    have hlt : g < w.heap.size := (Array.getElem?_eq_some_iff.1 hg).1
    refine ⟨g, 0, rfl, hlt, hok g hb hlt rfl, fun k a ha => ?_⟩
    have hkl : k < xss.length := by rw [hx, ← h.1]; exact (List.getElem?_eq_some_iff.1 ha).1
    refine ⟨xss[k], R.mono (fun i hi h => hm i hi h.1) (hr k a _ ha (List.getElem?_eq_getElem hkl)), fun j u hu => ?_⟩
    have := flatten_at xss R.size k xss[k] hp (List.getElem?_eq_getElem hkl) j u hu
    have := ho.cells (g := g) rfl _ u this
    rw [ad_add] at this
    rw [← this]
    congr 2; omega
theorem Own.keep (h : Own R t ok w base v n l) (hk : Keeps (off ok v) w w') (hv : ∀ g, v.ownBlock = some g → w'.heap[g]? = w.heap[g]?) : Own R t ok w' base v n l := by
  obtain ⟨hl, xss, ho, hx, hr⟩ := h
  refine ⟨hl, xss, ⟨ho.1, ?_⟩, hx, fun k a xs h1 h2 => R.keep hk (hr k a xs h1 h2)⟩
  rcases ho.2 with hn | ⟨g, cap, cur, rfl, hb, hg, r⟩
  · exact .inl hn
  · exact .inr ⟨g, cap, cur, rfl, hb, by rw [hv g rfl]; exact hg, r⟩
theorem Own.ext (h : Own R t ok w base v n l) (hk : Ext w w') : Own R t ok w' base v n l :=
  h.keep (hk.keeps _) (fun g hg => hk.block g (h.2.choose_spec.1.lt g hg).2 trivial)
theorem Own.drew (h : Own R t ok w base v n l) : Own R t ok w.drew base v n l := h.ext (Keeps.refl _ _).drew
theorem Own.drewN (h : Own R t ok w base v n l) (k : Nat) : Own R t ok (w.drewN k) base v n l := h.ext ((Keeps.refl _ _).drewN k)
theorem Own.alloc (h : Own R t ok w base v n l) (o : Obj) : Own R t ok (w.alloc o) base v n l := h.ext ((Keeps.refl _ _).alloc o)
theorem Own.mono (h : Own R t ok w base v n l) (hm : ∀ k, k < w.heap.size → ok k → ok' k) : Own R t ok' w base v n l := by
  obtain ⟨hl, xss, ho, hx, hr⟩ := h
  exact ⟨hl, xss, ho, hx, fun k a xs h1 h2 => R.mono (fun i hi h => ⟨hm i hi h.1, h.2⟩) (hr k a xs h1 h2)⟩
theorem Own.lt (h : Own R t ok w base v n l) : ∀ g, v.ownBlock = some g → base ≤ g ∧ g < w.heap.size := h.2.choose_spec.1.lt
end

/-! ### append -/
/-- What is appended: cells that are the elements of a list; what these lead to lies in blocks that are ok. -/
def Srcs {α : Type} (R : Rep α) (ok : Nat → Prop) (w : World) (A : Option Addr) (m : Nat) (l : List α) : Prop :=
  l.length = m ∧ (0 < m → ∃ b o : Nat, A = some ⟨b, o, none⟩ ∧
    ∀ (k : Nat) (a : α), l[k]? = some a → ∃ xs, R.rep ok w a xs ∧ ∀ (j : Nat) (u : Value), xs[j]? = some u → w.cell? ⟨b, o + k * R.size + j, none⟩ = some u)
theorem Sl.src {α : Type} {R : Rep α} {ok ok' : Nat → Prop} {w : World} {A : Option Addr} {n : Nat} {l : List α} (h : Sl R ok w A n l) (hm : ∀ k, k < w.heap.size → ok k → ok' k) : Srcs R ok' w A n l :=
  ⟨h.1, fun hn => by
    obtain ⟨b, o, e, _, _, hc⟩ := h.2 hn
    exact ⟨b, o, e, fun k a ha => by
      obtain ⟨xs, hr, hx⟩ := hc k a ha
      exact ⟨xs, R.mono hm hr, hx⟩⟩⟩
theorem Srcs.one_new {α : Type} {R : Rep α} {ok : Nat → Prop} {w' : World} {a : α} {xs : List Value} {g : Nat} {C : Array Value} {t : TypeId} {fr : Nat × Nat} (h : R.rep ok w' a xs) (hg : w'.heap[g]? = some (.cells C t fr)) (hC : C = xs.toArray) :
    Srcs R ok w' (some ⟨g, 0, none⟩) 1 [a] := by
  subst hC
  refine ⟨rfl, fun _ => ⟨g, 0, rfl, fun k b hb => ?_⟩⟩
  match k, hb with
  | 0, hb =>
    simp at hb; subst hb
    refine ⟨xs, h, fun j u hu => ?_⟩
    have e : 0 + 0 * R.size + j = j := by omega
    rw [e]
    simp [World.cell?, hg]; exact hu
section
variable {P : Program} {α : Type} {R : Rep α} {ok : Nat → Prop} (w : World) {v : Value} {n : Nat} {l : List α}

theorem run_append_zero (t ty e : TypeId) (i : TypeInfo) (base : Nat) (ht : P.underlying t = some (.slice e)) (hi : P.info? e = some i)
    (size : Nat) (xs : List Value) (hown : w.ownsRow base e size v n xs) (A : Option Addr) (c : Nat) : (Builtin.append_ #[t, t] ty #[v, .slice A 0 c]).run P w = .ok v w := by
  rcases hown.2 with ⟨rfl, rfl⟩ | ⟨g, cap, cur, rfl, _, _, hnc, _⟩
  · cases A <;> simp [Builtin.append_, run_underlying ht, sizeOf, typeInfo, hi, Builtin.lenOf, Builtin.firstCells, loadCells, loadCellsFrom]
  · cases A <;> simp [Builtin.append_, run_underlying ht, sizeOf, typeInfo, hi, Builtin.lenOf, Builtin.firstCells, hnc, storeCells, loadCells, loadCellsFrom]

/-- 'append(v, s...)': v a slice of the call's own, s whatever reads as a list. -/
theorem run_append_Own (t ty e : TypeId) (i : TypeInfo) (z : Value) (bytes base : Nat) (ht : P.underlying t = some (.slice e)) (hi : P.info? e = some i) (hz : i.zero = some z)
    (hsize : i.size = R.size) (hby : i.bytes = bytes) (hzs : z.cells.size = R.size) (hsz : 0 < R.size)
    (hown : Own R e ok w base v n l) (A : Option Addr) (m c : Nat) (l' : List α) (hs : Srcs R (off ok v) w A m l')
    (hn : n + m ≤ 1073741824) (hbytes : bytes ≤ 1024) (hbase : base ≤ w.heap.size) :
    ∃ A' c' w', (Builtin.append_ #[t, t] ty #[v, .slice A m c]).run P w = .ok (.slice A' (n + m) c') w' ∧ Own R e ok w' base (.slice A' (n + m) c') (n + m) (l ++ l') ∧ w.grownBy w' v.ownBlock ∧
      ((Value.slice A' (n + m) c').ownBlock = v.ownBlock ∨ (Value.slice A' (n + m) c').ownBlock = some w.heap.size) := by
  have hl' := hs.1
  rcases Nat.eq_zero_or_pos m with rfl | hpos
  · obtain ⟨A', c', hv⟩ := hown.form
    have hnil : l' = [] := List.eq_nil_of_length_eq_zero hl'
    subst hnil
    refine ⟨A', c', w, ?_, by rw [hv] at hown; simpa using hown, World.grownBy.refl w _, .inl (by rw [hv]; rfl)⟩
    rw [run_append_zero (P := P) w t ty e i base ht hi R.size _ hown.2.choose_spec.1 A c, hv]; rfl
  · obtain ⟨b, o, rfl, hc⟩ := hs.2 hpos
    generalize had : (⟨b, o, none⟩ : Addr) = ad at *
    have hp := hown.parts
    obtain ⟨hl, hspec⟩ := hown
    have hs' := hspec.choose_spec
    generalize hspec.choose = xss at *
    obtain ⟨hrow, hx, hr⟩ := hs'
    have hch : ∀ k : Nat, ∃ xs, k < m → (∃ a, l'[k]? = some a ∧ R.rep (off ok v) w a xs) ∧ ∀ (j : Nat) (u : Value), xs[j]? = some u → w.cell? (ad.add (k * R.size + j)) = some u := fun k => by
      have hadd : ∀ q, ad.add q = ⟨b, o + q, none⟩ := fun q => by rw [← had, ad_add]
      by_cases hk : k < m
      · have hkl : k < l'.length := by omega
        obtain ⟨xs, h1, h2⟩ := hc k l'[k] (List.getElem?_eq_getElem hkl)
        exact ⟨xs, fun _ => ⟨⟨_, List.getElem?_eq_getElem hkl, h1⟩, fun j u hu => by rw [hadd, ← h2 j u hu, Nat.add_assoc o]⟩⟩
      · exact ⟨[], fun h => absurd h hk⟩
    obtain ⟨f, hf⟩ := Classical.axiomOfChoice hch
    have hyl : ∀ y ∈ (List.range m).map f, y.length = R.size := by
      intro y hy
      obtain ⟨k, hk, rfl⟩ := List.mem_map.1 hy
      obtain ⟨⟨a, _, h1⟩, _⟩ := hf k (List.mem_range.1 hk)
      exact R.len h1
    have hflen : ∀ ys : List (List Value), (∀ y ∈ ys, y.length = R.size) → ys.flatten.length = ys.length * R.size := by
      intro ys
      induction ys with
      | nil => intro _; simp
      | cons y ys ih => intro h; rw [List.flatten_cons, List.length_append, ih (fun z hz => h z (by simp [hz])), h y (by simp), List.length_cons, Nat.succ_mul]; omega
    have hnl : ((List.range m).map f).flatten.length = m * R.size := by rw [hflen _ hyl]; simp
    have hat : ∀ (q : Nat) (u : Value), ((List.range m).map f).flatten[q]? = some u → w.cell? (ad.add q) = some u := by
      intro q u hq
      have hql : q < m * R.size := by rw [← hnl]; exact (List.getElem?_eq_some_iff.1 hq).1
      have hk : q / R.size < m := Nat.div_lt_of_lt_mul (by rw [Nat.mul_comm]; exact hql)
      obtain ⟨⟨a, _, h1⟩, h2⟩ := hf (q / R.size) hk
      have hj : q % R.size < (f (q / R.size)).length := by rw [R.len h1]; exact Nat.mod_lt _ hsz
      have h3 := flatten_at ((List.range m).map f) R.size (q / R.size) (f (q / R.size)) hyl (by simp [hk]) (q % R.size) _ (List.getElem?_eq_getElem hj)
      have hqq : q / R.size * R.size + q % R.size = q := by rw [Nat.mul_comm]; exact Nat.div_add_mod q R.size
      rw [hqq, hq] at h3
      have := h2 (q % R.size) _ (List.getElem?_eq_getElem hj)
      rw [hqq] at this
      rw [this, h3]
    have h1c : ∀ u ∈ ((List.range m).map f).flatten, u.oneCell' = true := by
      intro u hu
      obtain ⟨y, hy, huy⟩ := List.mem_flatten.1 hu
      obtain ⟨k, hk, rfl⟩ := List.mem_map.1 hy
      obtain ⟨⟨a, _, h1⟩, _⟩ := hf k (List.mem_range.1 hk)
      exact R.one h1 u huy
    have hbb : (n + m) * bytes ≤ 140737488355328 := by
      have := Nat.mul_le_mul hn hbytes
      omega
    obtain ⟨v', w', hrun, hown', hgr, _, hat'⟩ := run_append_own_at (P := P) w base t ty e i z R.size bytes ht hi hz hsize hby hzs hsz v n _ hrow ad m c _ hnl hat h1c (by unfold maxLen; omega) hbb hbase
    obtain ⟨g, cap, rfl, _, hlt⟩ := hown'.form (by omega)
    refine ⟨some ⟨g, 0, none⟩, cap, w', hrun, ⟨by rw [List.length_append, hl, hl'], xss ++ (List.range m).map f, by rw [List.flatten_append]; exact hown', by simp [hx], fun k a xs h1 h2 => ?_⟩, hgr, hat'⟩
    have hkeep : Keeps (fun k => off ok v k ∧ off ok (.slice (some ⟨g, 0, none⟩) (n + m) cap) k) w w' :=
      (Keeps.refl _ _).grown hgr (fun k hk _ h => h.1.2 hk)
    have key : ∀ a xs, R.rep (off ok v) w a xs → R.rep (off ok (.slice (some ⟨g, 0, none⟩) (n + m) cap)) w' a xs := fun a xs h => by
      refine R.mono (fun _ _ h => h.2) (R.keep hkeep (R.mono (fun i hi h => ⟨h, h.1, ?_⟩) h))
      rcases hat' with e | e
      · rw [e]; exact h.2
      · rw [e]; intro h; injection h with h; omega
    rcases Nat.lt_or_ge k n with hk | hk
    · rw [List.getElem?_append_left (by omega)] at h1
      rw [List.getElem?_append_left (by omega)] at h2
      exact key _ _ (hr k a xs h1 h2)
    · rw [List.getElem?_append_right (by omega)] at h1
      rw [List.getElem?_append_right (by omega)] at h2
      have hkm : k - n < m := by rw [← hl', ← hl]; exact (List.getElem?_eq_some_iff.1 h1).1
      obtain ⟨⟨b, hb1, hb2⟩, _⟩ := hf (k - n) hkm
      rw [hl] at h1
      rw [h1] at hb1
      injection hb1 with hb1
      subst hb1
      rw [hx] at h2
      simp [hkm] at h2
      subst h2
      exact key _ _ hb2

theorem wp_append_Own {o : Oper} {a : Act} {K : Act → World → Prop} {Q : Exit → Act → World → Prop} (s x : Operand) (t : TypeId)
    (hop : o.op = .call { callee := .builtin .append, args := #[s, x], argTypes := #[t, t] })
    (e : TypeId) (i : TypeInfo) (z : Value) (bytes base : Nat) (ht : P.underlying t = some (.slice e)) (hi : P.info? e = some i) (hz : i.zero = some z)
    (hsize : i.size = R.size) (hby : i.bytes = bytes) (hzs : z.cells.size = R.size) (hsz : 0 < R.size)
    (hs : a.eval s = v) (hown : Own R e ok w base v n l) (A : Option Addr) (m c : Nat) (l' : List α) (hx : a.eval x = .slice A m c) (hsl : Srcs R (off ok v) w A m l')
    (hn : n + m ≤ 1073741824) (hbytes : bytes ≤ 1024) (hbase : base ≤ w.heap.size)
    (h : ∀ A' c' w', Own R e ok w' base (.slice A' (n + m) c') (n + m) (l ++ l') → w.grownBy w' v.ownBlock →
      ((Value.slice A' (n + m) c').ownBlock = v.ownBlock ∨ (Value.slice A' (n + m) c').ownBlock = some w.heap.size) → K (a.put o.dst (.slice A' (n + m) c')) w') : o.wp P a w K Q := by
  obtain ⟨A', c', w', hrun, h2, h3, h4⟩ := run_append_Own (P := P) w t o.type e i z bytes base ht hi hz hsize hby hzs hsz hown A m c l' hsl hn hbytes hbase
  unfold Oper.wp execOp
  simp only [hop, resolve, invoke, builtin, Sem.run_bind, Sem.run_pure, Result.andThen_ok, List.map_toArray, List.map_cons, List.map_nil, hs, hx, hrun]
  exact h A' c' w' h2 h3 h4

theorem wpList_append_Own {ops : Array Oper} {rest : List Oper} {o : Oper} {a : Act} {Q : Exit → Act → World → Prop} (hgd : o.guard = none) (s x : Operand) (t : TypeId)
    (hop : o.op = .call { callee := .builtin .append, args := #[s, x], argTypes := #[t, t] })
    (e : TypeId) (i : TypeInfo) (z : Value) (bytes base : Nat) (ht : P.underlying t = some (.slice e)) (hi : P.info? e = some i) (hz : i.zero = some z)
    (hsize : i.size = R.size) (hby : i.bytes = bytes) (hzs : z.cells.size = R.size) (hsz : 0 < R.size)
    (hs : a.eval s = v) (hown : Own R e ok w base v n l) (A : Option Addr) (m c : Nat) (l' : List α) (hx : a.eval x = .slice A m c) (hsl : Srcs R (off ok v) w A m l')
    (hn : n + m ≤ 1073741824) (hbytes : bytes ≤ 1024) (hbase : base ≤ w.heap.size)
    (h : ∀ A' c' w', Own R e ok w' base (.slice A' (n + m) c') (n + m) (l ++ l') → w.grownBy w' v.ownBlock →
      ((Value.slice A' (n + m) c').ownBlock = v.ownBlock ∨ (Value.slice A' (n + m) c').ownBlock = some w.heap.size) → wpList P ops Q rest (a.put o.dst (.slice A' (n + m) c')) w') : wpList P ops Q (o :: rest) a w :=
  wpList_plain hgd fun _ hK => wp_append_Own w s x t hop e i z bytes base ht hi hz hsize hby hzs hsz hs hown A m c l' hx hsl hn hbytes hbase fun A' c' w' h2 h3 h4 => hK _ _ (h A' c' w' h2 h3 h4)

theorem step_append_Own {ops : Array Oper} {o : Oper} {a : Act} {K : Act → World → Prop} {Q : Exit → Act → World → Prop} {E : Prop} (hgd : o.guard = none) (s x : Operand) (t : TypeId)
    (hop : o.op = .call { callee := .builtin .append, args := #[s, x], argTypes := #[t, t] })
    (e : TypeId) (i : TypeInfo) (z : Value) (bytes base : Nat) (ht : P.underlying t = some (.slice e)) (hi : P.info? e = some i) (hz : i.zero = some z)
    (hsize : i.size = R.size) (hby : i.bytes = bytes) (hzs : z.cells.size = R.size) (hsz : 0 < R.size)
    (hs : a.eval s = v) (hown : Own R e ok w base v n l) (A : Option Addr) (m c : Nat) (l' : List α) (hx : a.eval x = .slice A m c) (hsl : Srcs R (off ok v) w A m l')
    (hn : n + m ≤ 1073741824) (hbytes : bytes ≤ 1024) (hbase : base ≤ w.heap.size)
    (h : ∀ A' c' w', Own R e ok w' base (.slice A' (n + m) c') (n + m) (l ++ l') → w.grownBy w' v.ownBlock →
      ((Value.slice A' (n + m) c').ownBlock = v.ownBlock ∨ (Value.slice A' (n + m) c').ownBlock = some w.heap.size) → K (a.put o.dst (.slice A' (n + m) c')) w') :
    if Region.wanted o (yielded ops a.tmps) = true then Oper.wp P o a w K Q else E := by
  have hw : Region.wanted o (yielded ops a.tmps) = true := by simp [Region.wanted, hgd]
  rw [if_pos hw]
  exact wp_append_Own w s x t hop e i z bytes base ht hi hz hsize hby hzs hsz hs hown A m c l' hx hsl hn hbytes hbase h
end

/-! ### strings -/
def strR : Rep ByteArray where
  size := 1
  rep _ _ s xs := xs = [.string s]
  len h := by subst h; rfl
  one h u hu := by subst h; simp at hu; subst hu; rfl
  keep _ h := h
  mono _ h := h
/-- A block that holds one element, as a slice. -/
theorem Sl.one_new {α : Type} {R : Rep α} {ok : Nat → Prop} {w : World} {a : α} {xs : List Value} (h : R.rep ok w a xs) (t : TypeId) (ho : ok w.heap.size) (C : Array Value) (hC : C = xs.toArray) :
    Sl R ok (w.alloc (.cells C t)) (some ⟨w.heap.size, 0, none⟩) 1 [a] := by
  subst hC
  refine ⟨rfl, fun _ => ⟨w.heap.size, 0, rfl, by simp, ho, fun k b hb => ?_⟩⟩
  match k, hb with
  | 0, hb =>
    simp at hb; subst hb
    refine ⟨xs, R.keep ((Keeps.refl _ _).alloc _) h, fun j u hu => ?_⟩
    have hj : j < xs.length := (List.getElem?_eq_some_iff.1 hu).1
    have e : 0 + 0 * R.size + j = j := by omega
    rw [e, World.cell?_alloc_mark w xs.toArray t (0, 0) j]
    simpa using hu
end Go.Proofs.YtpkkkhgmkndpdaaGreatDoor
namespace Go.Proofs.YtpkkkhgmkndpdaaGreatDoor
open Go Go.RowKit

def okByte (c : UInt8) : Bool := (97 ≤ c && c ≤ 122) || (48 ≤ c && c ≤ 57) || c == 45
def nameB (s : ByteArray) : Bool := decide (1 ≤ s.size) && decide (s.size ≤ 24) && s.data.toList.all okByte
theorem okByte_iff (c : UInt8) : okByte c = true ↔ (97 ≤ (c.toNat : Int) ∧ (c.toNat : Int) ≤ 122) ∨ (48 ≤ (c.toNat : Int) ∧ (c.toNat : Int) ≤ 57) ∨ (c.toNat : Int) = 45 := by
  have e : (c == 45) = decide ((c.toNat : Int) = 45) := by
    rw [Bool.eq_iff_iff]; simp only [beq_iff_eq, decide_eq_true_eq, ← UInt8.toNat_inj]; simp; omega
  simp only [okByte, e, UInt8.le_iff_toNat_le, Bool.or_eq_true, Bool.and_eq_true, decide_eq_true_eq]
  simp; omega
theorem take_snoc (s : ByteArray) (k : Nat) (h : k < s.size) : s.data.toList.take (k + 1) = s.data.toList.take k ++ [s[k]] := by
  rw [List.take_succ_eq_append_getElem (by simpa using h)]; rfl
theorem take_all (s : ByteArray) (k : Nat) (h : s.size ≤ k) : s.data.toList.take k = s.data.toList := List.take_of_length_le (by simpa using h)
theorem nameB_long {s : ByteArray} (h : 24 < s.size) : nameB s = false := by unfold nameB; simp; omega
theorem nameB_short {s : ByteArray} (h : s.size < 1) : nameB s = false := by unfold nameB; simp; omega
theorem nameB_mid {s : ByteArray} (h1 : ¬ s.size < 1) (h2 : ¬ 24 < s.size) : nameB s = s.data.toList.all okByte := by
  unfold nameB
  have e1 : decide (1 ≤ s.size) = true := by simp; omega
  have e2 : decide (s.size ≤ 24) = true := by simp; omega
  rw [e1, e2]; simp
theorem all_not {s : ByteArray} {k : Nat} (h : k < s.size) (hk : ¬ okByte s[k] = true) : s.data.toList.all okByte = false := by
  rw [Bool.eq_false_iff]
  intro ha
  exact hk (List.all_eq_true.1 ha s[k] (by show s.data[k] ∈ _; simp))
theorem all_step {s : ByteArray} {k : Nat} (h : k < s.size) (ha : (s.data.toList.take k).all okByte = true) (hk : okByte s[k] = true) : (s.data.toList.take (k + 1)).all okByte = true := by
  rw [take_snoc s k h, List.all_append, ha]; simp [hk]

def hstep (h : Int) (b : Int) : Int := IntKind.u64.wrap (bits .xor .u64 h b * 1099511628211)
def hbyte (h : Int) (c : UInt8) : Int := hstep h (IntKind.u64.wrap (c.toNat : Int))
def hword (h : Int) (s : ByteArray) : Int := hstep (s.data.toList.foldl hbyte h) 256
def hstart (seed : Int) : Int := IntKind.u64.wrap (seed + 11400714819323198485)
def hend (h : Int) : Int :=
  let h := IntKind.u64.wrap (bits .xor .u64 h (h / 2147483648) * 9202087104158670213)
  let h := IntKind.u64.wrap (bits .xor .u64 h (h / 134217728) * 9356908073163150413)
  bits .xor .u64 h (h / 8589934592)
def hash (seed : Int) (l : List ByteArray) : Int := hend (l.foldl hword (hstart seed))

theorem hstep_def (h b : Int) : hstep h b = IntKind.u64.wrap (bits .xor .u64 h b * 1099511628211) := by unfold hstep; exact rfl
theorem hword_def (h : Int) (s : ByteArray) : hword h s = hstep (s.data.toList.foldl hbyte h) 256 := by unfold hword; exact rfl
theorem hend_def (h : Int) : hend h = bits .xor .u64 (IntKind.u64.wrap (bits .xor .u64 (IntKind.u64.wrap (bits .xor .u64 h (h / 2147483648) * 9202087104158670213)) ((IntKind.u64.wrap (bits .xor .u64 h (h / 2147483648) * 9202087104158670213)) / 134217728) * 9356908073163150413)) ((IntKind.u64.wrap (bits .xor .u64 (IntKind.u64.wrap (bits .xor .u64 h (h / 2147483648) * 9202087104158670213)) ((IntKind.u64.wrap (bits .xor .u64 h (h / 2147483648) * 9202087104158670213)) / 134217728) * 9356908073163150413)) / 8589934592) := by unfold hend; exact rfl
theorem hash_def (seed : Int) (l : List ByteArray) : hash seed l = hend (l.foldl hword (hstart seed)) := by unfold hash; exact rfl

/-- An entry of an audit. -/
structure Ent where
  off : Int
  now : Int
  person : ByteArray
  items : List ByteArray
  sum : Int

def entR : Rep Ent where
  size := 5
  rep ok w e xs := ∃ A c, xs = [.int .i64 e.off, .int .i64 e.now, .string e.person, .slice A e.items.length c, .int .u64 e.sum] ∧ e.items.length ≤ c ∧ Sl strR ok w A e.items.length e.items
  len h := by obtain ⟨A, c, rfl, _⟩ := h; rfl
  one h u hu := by
    obtain ⟨A, c, rfl, _⟩ := h
    simp at hu
    rcases hu with rfl | rfl | rfl | rfl | rfl <;> rfl
  keep hk h := by obtain ⟨A, c, rfl, hc, hs⟩ := h; exact ⟨A, c, rfl, hc, hs.keep hk⟩
  mono hm h := by obtain ⟨A, c, rfl, hc, hs⟩ := h; exact ⟨A, c, rfl, hc, hs.mono hm⟩

section
variable {ok : Nat → Prop} {w w' : World} {A : Option Addr} {n : Nat}
theorem Sl.str {l : List ByteArray} (h : Sl strR ok w A n l) {k : Nat} (hk : k < n) : ∃ (b o : Nat) (s : ByteArray), A = some ⟨b, o, none⟩ ∧ b < w.heap.size ∧ ok b ∧ l[k]? = some s ∧ w.cell? ⟨b, o + k, none⟩ = some (.string s) := by
  obtain ⟨b, o, s, xs, rfl, hb, ho, hs, rfl, hc⟩ := h.at_ hk
  exact ⟨b, o, s, rfl, hb, ho, hs, by simpa [strR] using hc 0 _ rfl⟩
theorem Sl.ent {l : List Ent} (h : Sl entR ok w A n l) {k : Nat} (hk : k < n) : ∃ (b o : Nat) (e : Ent) (A' : Option Addr) (c' : Nat), A = some ⟨b, o, none⟩ ∧ b < w.heap.size ∧ ok b ∧ l[k]? = some e ∧ e.items.length ≤ c' ∧ Sl strR ok w A' e.items.length e.items ∧
    w.cell? ⟨b, o + k * 5, none⟩ = some (.int .i64 e.off) ∧ w.cell? ⟨b, o + k * 5 + 1, none⟩ = some (.int .i64 e.now) ∧ w.cell? ⟨b, o + k * 5 + 2, none⟩ = some (.string e.person) ∧
    w.cell? ⟨b, o + k * 5 + 3, none⟩ = some (.slice A' e.items.length c') ∧ w.cell? ⟨b, o + k * 5 + 4, none⟩ = some (.int .u64 e.sum) := by
  obtain ⟨b, o, e, xs, rfl, hb, ho, he, ⟨A', c', rfl, hc', hs⟩, hc⟩ := h.at_ hk
  exact ⟨b, o, e, A', c', rfl, hb, ho, he, hc', hs, hc 0 _ rfl, hc 1 _ rfl, hc 2 _ rfl, hc 3 _ rfl, hc 4 _ rfl⟩
end
end Go.Proofs.YtpkkkhgmkndpdaaGreatDoor
namespace Go.Proofs.YtpkkkhgmkndpdaaGreatDoor
open Go Go.RowKit

/-- Elements that lead nowhere. -/
def Rep.flat {α : Type} (R : Rep α) : Prop := ∀ (ok ok' : Nat → Prop) (w w' : World) (a : α) (xs : List Value), R.rep ok w a xs → R.rep ok' w' a xs
theorem strR_flat : strR.flat := fun _ _ _ _ _ _ h => h
theorem Own.flat {α : Type} {R : Rep α} {t : TypeId} {ok ok' : Nat → Prop} {w w' : World} {base : Nat} {v : Value} {n : Nat} {l : List α} (hf : R.flat) (h : Own R t ok w base v n l) (hv : ∀ g, v.ownBlock = some g → w'.heap[g]? = w.heap[g]?) : Own R t ok' w' base v n l := by
  obtain ⟨hl, xss, ho, hx, hr⟩ := h
  refine ⟨hl, xss, ⟨ho.1, ?_⟩, hx, fun k a xs h1 h2 => hf _ _ _ _ _ _ (hr k a xs h1 h2)⟩
  rcases ho.2 with hn | ⟨g, cap, cur, rfl, hb, hg, r⟩
  · exact .inl hn
  · exact .inr ⟨g, cap, cur, rfl, hb, by rw [hv g rfl]; exact hg, r⟩
theorem Sl.flat_src {α : Type} {R : Rep α} {ok ok' : Nat → Prop} {w : World} {A : Option Addr} {n : Nat} {l : List α} (hf : R.flat) (h : Sl R ok w A n l) : Srcs R ok' w A n l :=
  ⟨h.1, fun hn => by
    obtain ⟨b, o, e, _, _, hc⟩ := h.2 hn
    exact ⟨b, o, e, fun k a ha => by
      obtain ⟨xs, hr, hx⟩ := hc k a ha
      exact ⟨xs, hf _ _ _ _ _ _ hr, hx⟩⟩⟩
/-- The row of a slice is no block of another element type. -/
theorem Own.ne_blk {α : Type} {R : Rep α} {t t' : TypeId} {ok : Nat → Prop} {w : World} {base : Nat} {v : Value} {n : Nat} {l : List α} {g : Nat} {C : Array Value} {fr : Nat × Nat} (h : Own R t ok w base v n l) (hg : w.heap[g]? = some (.cells C t' fr)) (ht : t ≠ t') : v.ownBlock ≠ some g := by
  intro e
  rcases h.2.choose_spec.1.2 with ⟨hv, _⟩ | ⟨g', cap, cur, hv, _, hh, _⟩
  · rw [hv] at e; simp [Value.ownBlock] at e
  · rw [hv] at e
    have : g' = g := by simpa [Value.ownBlock] using e
    subst this
    rw [hg] at hh
    injection hh with hh
    injection hh with _ ht'
    exact ht ht'.symm
theorem Own.cap {α : Type} {R : Rep α} {t : TypeId} {ok : Nat → Prop} {w : World} {base : Nat} {A : Option Addr} {n c : Nat} {l : List α} (h : Own R t ok w base (.slice A n c) n l) : n ≤ c := by
  rcases h.2.choose_spec.1.2 with ⟨hv, h0⟩ | ⟨g, cap, cur, hv, _, _, hnc, _⟩
  · omega
  · injection hv with _ _ hc; omega
/-- Cells of a new block, as a slice. -/
theorem Sl.new_flat {α : Type} {R : Rep α} {ok : Nat → Prop} {w : World} {g : Nat} {C : Array Value} {t : TypeId} {fr : Nat × Nat} {l : List α} {n : Nat} (hg : w.heap[g]? = some (.cells C t fr)) (ho : ok g) (hl : l.length = n)
    (h : ∀ (k : Nat) (a : α), l[k]? = some a → ∃ xs, R.rep ok w a xs ∧ ∀ (j : Nat) (u : Value), xs[j]? = some u → C[k * R.size + j]? = some u) : Sl R ok w (some ⟨g, 0, none⟩) n l :=
  ⟨hl, fun _ => ⟨g, 0, rfl, (Array.getElem?_eq_some_iff.1 hg).1, ho, fun k a ha => by
    obtain ⟨xs, hr, hx⟩ := h k a ha
    exact ⟨xs, hr, fun j u hu => blk_cell hg _ (by rw [Nat.zero_add]; exact hx j u hu)⟩⟩⟩
theorem Sl.new_strs {ok : Nat → Prop} {w : World} {g : Nat} {C : Array Value} {t : TypeId} {fr : Nat × Nat} {l : List ByteArray} {n : Nat} (hg : w.heap[g]? = some (.cells C t fr)) (ho : ok g) (hl : l.length = n) (hC : C = (l.map Value.string).toArray) : Sl strR ok w (some ⟨g, 0, none⟩) n l :=
  Sl.new_flat hg ho hl fun k a ha => ⟨[.string a], rfl, fun j u hu => by
    subst hC
    match j, hu with
    | 0, hu => simp at hu; subst hu; simp [strR, ha]⟩
theorem Own.new_strs {ok : Nat → Prop} {w : World} {g base : Nat} {C : Array Value} {t : TypeId} {l : List ByteArray} {n : Nat} (hg : w.heap[g]? = some (.cells C t)) (hb : base ≤ g) (hl : l.length = n) (hn : n ≤ 1000000) (hC : C = (l.map Value.string).toArray) : Own strR t ok w base (.slice (some ⟨g, 0, none⟩) n n) n l := by
  refine ⟨hl, l.map (fun s => [.string s]), ?_, by simpa using hl, fun k a xs h1 h2 => by simp [h1] at h2; subst h2; rfl⟩
  have hfl : (l.map (fun s => [Value.string s])).flatten = l.map Value.string := by
    clear hg hl hC
    induction l with
    | nil => rfl
    | cons a l ih => simp [ih]
  rw [hfl]
  refine ⟨by simp [strR, hl], .inr ⟨g, n, C, rfl, hb, hg, Nat.le_refl _, by unfold maxLen; omega, by subst hC; simp [strR, hl], by subst hC; simp only [strR, Nat.mul_one]; exact List.take_of_length_le (by simp [hl])⟩⟩
end Go.Proofs.YtpkkkhgmkndpdaaGreatDoor
namespace Go.Proofs.YtpkkkhgmkndpdaaGreatDoor
open Go Go.RowKit

/-- A world that goes on from w0. -/
structure XW (w0 : World) where
  w : World
  h : Ext w0 w
instance (w0 : World) : Nonempty (XW w0) := ⟨⟨w0, Keeps.refl _ _⟩⟩
theorem XW.cell {w0 : World} (y : XW w0) : ∀ p : Addr, p.block < w0.heap.size → y.w.cell? p = w0.cell? p := y.h.cells
theorem wp_region_ext {P : Program} {id : Nat} {Q : Exit → Act → World → Prop} {a : Act} {w : World} {l : List Oper} (w0 : World) (hx : Ext w0 w) (hm : P.follows .mixedOrders = true) (hB : Region.lexB .any l.toArray = true)
    (h : wpQuiet P l.toArray (fun w' => ∃ y : XW w0, w' = y.w) (fun a' => ∀ w', (∃ y : XW w0, w' = y.w) → Q .normal a' w') l a) : (Code.region id l.toArray true).wp P Q a w :=
  wp_region_quiet (C := fun w' => ∃ y : XW w0, w' = y.w) hm hB ⟨⟨_, hx.drew⟩, rfl⟩ (by simpa using h)
theorem ext_calls {P : Program} {f : FuncId} {args : Array Value} {w0 : World} {y : XW w0} {v : Value} (h : Calls P f args y.w fun e w' => e = .returned v ∧ Ext y.w w') : Calls P f args y.w fun e w'' => e = .returned v ∧ ∃ z : XW w0, w'' = z.w :=
  h.mono fun _ w' ⟨he, hx⟩ => ⟨he, ⟨w', y.h.trans hx⟩, rfl⟩
theorem ext_calls_same {P : Program} {f : FuncId} {args : Array Value} {w0 : World} {y : XW w0} {v : Value} (h : Calls P f args y.w fun e w' => e = .returned v ∧ y.w = w') : Calls P f args y.w fun e w'' => e = .returned v ∧ ∃ z : XW w0, w'' = z.w :=
  h.mono fun _ _ ⟨he, hx⟩ => ⟨he, y, hx.symm⟩
theorem ext_calls_drewN {P : Program} {f : FuncId} {args : Array Value} {w0 : World} {y : XW w0} {v : Value} (h : Calls P f args y.w fun e w' => e = .returned v ∧ ∃ m, w' = y.w.drewN m) : Calls P f args y.w fun e w'' => e = .returned v ∧ ∃ z : XW w0, w'' = z.w :=
  h.mono fun _ _ ⟨he, m, hx⟩ => ⟨he, ⟨y.w.drewN m, y.h.drewN m⟩, hx⟩
end Go.Proofs.YtpkkkhgmkndpdaaGreatDoor
