/-
  What is proved here: lists that are put in order, those at one place as they stood: such a list is one alone; what exchanges, insertions and merges do to it. No program is in sight. No condition.
  parts of lists, and how parts that are in order are merged to greater ones. No program is in sight. No condition.
  how a row of events lies in memory, and what a store of an event does to it. Conditions: none.
-/
import Derived.WalkKit
import Derived.Test.YtpkkkhgmkndpdaaGreatDoorEvCmp
namespace Go.Proofs.YtpkkkhgmkndpdaaGreatDoor
section
variable {α : Type} (lt : α → α → Bool)
structure Swo : Prop where
  asym : ∀ {a b : α}, lt a b = true → lt b a = false
  ntrans : ∀ {a b c : α}, lt a b = false → lt b c = false → lt a c = false
def eqvB (k x : α) : Bool := !lt k x && !lt x k
/-- In order: none is less than one ahead. -/
def Srt (l : List α) : Prop := l.Pairwise (fun a b => lt b a = false)
/-- The same ones; those at one place stand as they stood. -/
structure Cls (l s : List α) : Prop where
  perm : l.Perm s
  cls : ∀ k, s.filter (eqvB lt k) = l.filter (eqvB lt k)
variable {lt}
theorem Cls.refl (l : List α) : Cls lt l l := ⟨List.Perm.refl _, fun _ => rfl⟩
theorem Cls.trans {a b c : List α} (h1 : Cls lt a b) (h2 : Cls lt b c) : Cls lt a c := ⟨h1.perm.trans h2.perm, fun k => (h2.cls k).trans (h1.cls k)⟩
theorem Cls.symm {a b : List α} (h1 : Cls lt a b) : Cls lt b a := ⟨h1.perm.symm, fun k => (h1.cls k).symm⟩
theorem Cls.app {a b c d : List α} (h1 : Cls lt a b) (h2 : Cls lt c d) : Cls lt (a ++ c) (b ++ d) := ⟨h1.perm.append h2.perm, fun k => by rw [List.filter_append, List.filter_append, h1.cls k, h2.cls k]⟩
theorem Cls.len {a b : List α} (h1 : Cls lt a b) : b.length = a.length := h1.perm.length_eq.symm
theorem Cls.mem {a b : List α} (h1 : Cls lt a b) {x : α} : x ∈ b ↔ x ∈ a := h1.perm.mem_iff.symm
theorem srt_app {u v : List α} : Srt lt (u ++ v) ↔ Srt lt u ∧ Srt lt v ∧ ∀ x ∈ u, ∀ y ∈ v, lt y x = false := List.pairwise_append
theorem srt_cons {x : α} {v : List α} : Srt lt (x :: v) ↔ (∀ y ∈ v, lt y x = false) ∧ Srt lt v := List.pairwise_cons
theorem srt_nil : Srt lt ([] : List α) := List.Pairwise.nil
theorem srt_short {l : List α} (h : l.length ≤ 1) : Srt lt l := by
  match l, h with
  | [], _ => exact srt_nil
  | [x], _ => exact srt_cons.2 ⟨fun _ h => (by cases h), srt_nil⟩
variable (h : Swo lt)
include h
theorem Swo.irr (a : α) : lt a a = false := by
  cases e : lt a a with
  | false => rfl
  | true => have := h.asym e; rw [e] at this; exact this
theorem Swo.trans {a b c : α} (h1 : lt a b = true) (h2 : lt b c = true) : lt a c = true := by
  cases e : lt a c with
  | true => rfl
  | false => have := h.ntrans e (h.asym h2); rw [h1] at this; cases this
theorem Swo.lt_le {a b c : α} (h1 : lt a b = true) (h2 : lt c b = false) : lt a c = true := by
  cases e : lt a c with
  | true => rfl
  | false => have := h.ntrans e h2; rw [h1] at this; cases this
theorem Swo.le_lt {a b c : α} (h1 : lt b a = false) (h2 : lt b c = true) : lt a c = true := by
  cases e : lt a c with
  | true => rfl
  | false => have := h.ntrans h1 e; rw [h2] at this; cases this
theorem eqv_self (a : α) : eqvB lt a a = true := by unfold eqvB; rw [h.irr]; rfl
omit h in
theorem eqv_iff {a b : α} : eqvB lt a b = true ↔ lt a b = false ∧ lt b a = false := by unfold eqvB; simp
theorem eqv_same {a b : α} (hab : eqvB lt a b = true) : eqvB lt a = eqvB lt b := by
  have h1 := eqv_iff.1 hab
  funext x
  rw [Bool.eq_iff_iff, eqv_iff, eqv_iff]
  constructor
  · rintro ⟨h2, h3⟩; exact ⟨h.ntrans h1.2 h2, h.ntrans h3 h1.1⟩
  · rintro ⟨h2, h3⟩; exact ⟨h.ntrans h1.1 h2, h.ntrans h3 h1.2⟩
/-- There is one such list alone. -/
theorem srt_one : ∀ (s t : List α), Srt lt s → Srt lt t → (∀ k, t.filter (eqvB lt k) = s.filter (eqvB lt k)) → s.Perm t → s = t
  | [], t, _, _, _, hp => (List.Perm.eq_nil (hp.symm)).symm
  | x :: s, [], _, _, _, hp => by cases List.Perm.eq_nil hp
  | x :: s, y :: t, hs, ht, hc, hp => by
    have hs' := srt_cons.1 hs
    have ht' := srt_cons.1 ht
    have hxt : x ∈ y :: t := hp.mem_iff.1 (by simp)
    have hys : y ∈ x :: s := hp.mem_iff.2 (by simp)
    have h1 : lt x y = false := by
      rcases List.mem_cons.1 hxt with e | e
      · rw [e]; exact h.irr y
      · exact ht'.1 x e
    have h2 : lt y x = false := by
      rcases List.mem_cons.1 hys with e | e
      · rw [e]; exact h.irr x
      · exact hs'.1 y e
    have he : eqvB lt x y = true := eqv_iff.2 ⟨h1, h2⟩
    have hcx := hc x
    rw [List.filter_cons_of_pos he, List.filter_cons_of_pos (eqv_self h x)] at hcx
    injection hcx with e1 e2
    subst e1
    have hc' : ∀ k, t.filter (eqvB lt k) = s.filter (eqvB lt k) := fun k => by
      cases hk : eqvB lt k y with
      | true => rw [eqv_same h hk]; exact e2
      | false =>
        have := hc k
        rw [List.filter_cons_of_neg (by rw [hk]; decide), List.filter_cons_of_neg (by rw [hk]; decide)] at this
        exact this
    rw [srt_one s t hs'.2 ht'.2 hc' (List.Perm.cons_inv hp)]
theorem srt_cls {l s t : List α} (hs : Srt lt s) (ht : Srt lt t) (h1 : Cls lt l s) (h2 : Cls lt l t) : s = t :=
  have hc := h1.symm.trans h2
  srt_one h s t hs ht hc.cls hc.perm
theorem filter_none {u v : List α} (huv : ∀ x ∈ u, ∀ y ∈ v, lt y x = true) (k : α) : u.filter (eqvB lt k) = [] ∨ v.filter (eqvB lt k) = [] := by
  by_cases hu : u.filter (eqvB lt k) = []
  · exact .inl hu
  · right
    obtain ⟨x, hx⟩ := List.exists_mem_of_ne_nil _ hu
    obtain ⟨hxu, hxk⟩ := List.mem_filter.1 hx
    rw [List.filter_eq_nil_iff]
    intro y hy hyk
    have h1 := eqv_iff.1 hxk
    have h2 := eqv_iff.1 hyk
    have h3 := huv x hxu y hy
    have h4 := h.ntrans h2.2 h1.1
    rw [h3] at h4; cases h4
/-- Parts of which all of the second are less than all of the first change places. -/
theorem cls_turn {u v : List α} (huv : ∀ x ∈ u, ∀ y ∈ v, lt y x = true) : Cls lt (u ++ v) (v ++ u) := ⟨List.perm_append_comm, fun k => by
  rw [List.filter_append, List.filter_append]
  rcases filter_none h huv k with e | e <;> rw [e] <;> simp⟩
theorem cls_swap {x y : α} (hxy : lt y x = true) (p r : List α) : Cls lt (p ++ x :: y :: r) (p ++ y :: x :: r) := by
  have h1 := cls_turn h (u := [x]) (v := [y]) (fun a ha b hb => by simp at ha hb; subst ha hb; exact hxy)
  have h2 : Cls lt ([x] ++ [y] ++ r) ([y] ++ [x] ++ r) := h1.app (Cls.refl r)
  exact (Cls.refl p).app h2
/-- One is put in its place: behind all that aren't greater. -/
theorem ins_at {u v : List α} {x : α} (hs : Srt lt (u ++ v)) (hv : ∀ y ∈ v, lt x y = true) (hu : ∀ z, u.getLast? = some z → lt x z = false) : Srt lt (u ++ x :: v) ∧ Cls lt (u ++ v ++ [x]) (u ++ x :: v) := by
  obtain ⟨h1, h2, h3⟩ := srt_app.1 hs
  refine ⟨srt_app.2 ⟨h1, srt_cons.2 ⟨fun y hy => h.asym (hv y hy), h2⟩, fun a ha b hb => ?_⟩, ?_⟩
  · rcases List.mem_cons.1 hb with rfl | hb
    · cases hl : u.getLast? with
      | none => rw [List.getLast?_eq_none_iff] at hl; subst hl; cases ha
      | some z =>
        have hz := hu z hl
        obtain ⟨u', rfl⟩ := List.getLast?_eq_some_iff.1 hl
        rcases List.mem_append.1 ha with ha | ha
        · have := (srt_app.1 h1).2.2 a ha z (by simp)
          exact h.ntrans hz this
        · simp at ha; subst ha; exact hz
    · exact h3 a ha b hb
  · have h4 := cls_turn h (u := v) (v := [x]) (fun a ha b hb => by simp at hb; subst hb; exact hv a ha)
    have h5 := (Cls.refl (lt := lt) u).app h4
    simpa using h5
/-- One is put in its place: ahead of all that aren't less. -/
theorem ins_ahead {v1 v2 : List α} {x : α} (hs : Srt lt (v1 ++ v2)) (h1 : ∀ y ∈ v1, lt y x = true) (h2 : ∀ y ∈ v2, lt y x = false) : Srt lt (v1 ++ x :: v2) ∧ Cls lt (x :: (v1 ++ v2)) (v1 ++ x :: v2) := by
  obtain ⟨g1, g2, g3⟩ := srt_app.1 hs
  refine ⟨srt_app.2 ⟨g1, srt_cons.2 ⟨h2, g2⟩, fun a ha b hb => ?_⟩, ?_⟩
  · rcases List.mem_cons.1 hb with rfl | hb
    · exact h.asym (h1 a ha)
    · exact g3 a ha b hb
  · have h4 := cls_turn h (u := [x]) (v := v1) (fun a ha b hb => by simp at ha; subst ha; exact h1 b hb)
    have h5 := h4.app (Cls.refl (lt := lt) v2)
    simpa using h5
/-- Two halves, each merged. -/
theorem merge_two {A1 B1 A2 B2 L R : List α} (hU : Srt lt (A1 ++ B1)) (hV : Srt lt (A2 ++ B2)) (h1 : ∀ x ∈ B1, ∀ y ∈ A2, lt y x = true) (h2 : ∀ x ∈ A1, ∀ y ∈ B2, lt y x = false)
    (hL : Srt lt L) (cL : Cls lt (A1 ++ A2) L) (hR : Srt lt R) (cR : Cls lt (B1 ++ B2) R) : Srt lt (L ++ R) ∧ Cls lt ((A1 ++ B1) ++ (A2 ++ B2)) (L ++ R) := by
  obtain ⟨_, _, u3⟩ := srt_app.1 hU
  obtain ⟨_, _, v3⟩ := srt_app.1 hV
  refine ⟨srt_app.2 ⟨hL, hR, fun x hx y hy => ?_⟩, ?_⟩
  · rcases List.mem_append.1 (cL.mem.1 hx) with hx | hx <;> rcases List.mem_append.1 (cR.mem.1 hy) with hy | hy
    · exact u3 x hx y hy
    · exact h2 x hx y hy
    · exact h.asym (h1 y hy x hx)
    · exact v3 x hx y hy
  · have e1 : (A1 ++ B1) ++ (A2 ++ B2) = A1 ++ (B1 ++ A2) ++ B2 := by simp
    have e2 : Cls lt (A1 ++ (B1 ++ A2) ++ B2) (A1 ++ (A2 ++ B1) ++ B2) := ((Cls.refl A1).app (cls_turn h h1)).app (Cls.refl B2)
    have e3 : A1 ++ (A2 ++ B1) ++ B2 = (A1 ++ A2) ++ (B1 ++ B2) := by simp
    rw [e1]
    refine e2.trans ?_
    rw [e3]
    exact cL.app cR
/-- The order, as a function. -/
def putE (lt : α → α → Bool) (out : List α) (x : α) : List α := (out.takeWhile fun y => !lt x y) ++ x :: (out.dropWhile fun y => !lt x y)
omit h in
theorem drop_head {p : α → Bool} : ∀ (l : List α) (y : α), (l.dropWhile p).head? = some y → p y = false
  | [], y, e => by simp at e
  | x :: l, y, e => by
    rw [List.dropWhile_cons] at e
    split at e
    · exact drop_head l y e
    · rename_i h1
      simp at e; subst e
      simpa using h1
omit h in
theorem take_mem {p : α → Bool} : ∀ (l : List α) (y : α), y ∈ l.takeWhile p → p y = true
  | [], y, e => by simp at e
  | x :: l, y, e => by
    rw [List.takeWhile_cons] at e
    split at e
    · rename_i h1
      rcases List.mem_cons.1 e with rfl | e
      · exact h1
      · exact take_mem l y e
    · cases e
theorem put_srt {out : List α} (hs : Srt lt out) (x : α) : Srt lt (putE lt out x) ∧ Cls lt (out ++ [x]) (putE lt out x) := by
  have e : out.takeWhile (fun y => !lt x y) ++ out.dropWhile (fun y => !lt x y) = out := List.takeWhile_append_dropWhile
  have hs' := hs
  rw [← e] at hs'
  have h1 := ins_at h (x := x) hs' (fun y hy => by
    cases hd : out.dropWhile (fun y => !lt x y) with
    | nil => rw [hd] at hy; cases hy
    | cons z r =>
      have hz : lt x z = true := by
        have := drop_head (p := fun y => !lt x y) out z (by rw [hd]; rfl)
        simpa using this
      rw [hd] at hy hs'
      rcases List.mem_cons.1 hy with rfl | hy
      · exact hz
      · exact h.lt_le hz ((srt_cons.1 (srt_app.1 hs').2.1).1 y hy)) (fun z hz => by
    have := take_mem (p := fun y => !lt x y) out z (List.mem_of_getLast? hz)
    simpa using this)
  rw [e] at h1
  exact h1
def sortL (lt : α → α → Bool) (l : List α) : List α := l.foldl (putE lt) []
theorem sortL_ok (l : List α) : Srt lt (sortL lt l) ∧ Cls lt l (sortL lt l) := by
  suffices ∀ (l pre out : List α), Srt lt out → Cls lt pre out → Srt lt (l.foldl (putE lt) out) ∧ Cls lt (pre ++ l) (l.foldl (putE lt) out) by
    have := this l [] [] srt_nil (Cls.refl _)
    simpa [sortL] using this
  intro l
  induction l with
  | nil => intro pre out hs hc; simpa using ⟨hs, hc⟩
  | cons x l ih =>
    intro pre out hs hc
    obtain ⟨p1, p2⟩ := put_srt h hs x
    have := ih (pre ++ [x]) (putE lt out x) p1 ((hc.app (Cls.refl [x])).trans p2)
    simpa using this
theorem sortL_eq {l s : List α} (hs : Srt lt s) (hc : Cls lt l s) : s = sortL lt l := srt_cls h hs (sortL_ok h l).1 hc (sortL_ok h l).2
end
end Go.Proofs.YtpkkkhgmkndpdaaGreatDoor
namespace Go.Proofs.YtpkkkhgmkndpdaaGreatDoor
section
variable {α : Type} {lt : α → α → Bool}
def seg (d : List α) (i k : Nat) : List α := (d.drop i).take k
theorem seg_split (d : List α) (i k : Nat) : d = d.take i ++ seg d i k ++ d.drop (i + k) := by
  unfold seg
  rw [List.append_assoc]
  conv => lhs; rw [← List.take_append_drop i d]
  congr 1
  conv => lhs; rw [← List.take_append_drop k (d.drop i)]
  rw [List.drop_drop]
theorem seg_two (d : List α) (i k m : Nat) : d = d.take i ++ seg d i k ++ seg d (i + k) m ++ d.drop (i + k + m) := by
  have h1 := seg_split d i k
  have h2 : d.drop (i + k) = seg d (i + k) m ++ d.drop (i + k + m) := by
    unfold seg
    conv => lhs; rw [← List.take_append_drop m (d.drop (i + k))]
    rw [List.drop_drop]
  rw [h2] at h1
  rw [List.append_assoc]
  exact h1
theorem seg_pre {P R : List α} {i k : Nat} (h : i + k ≤ P.length) : seg (P ++ R) i k = seg P i k := by
  unfold seg
  rw [List.drop_append_of_le_length (by omega), List.take_append_of_le_length (by simp; omega)]
theorem seg_post {P R : List α} {i k : Nat} (h : P.length ≤ i) : seg (P ++ R) i k = seg R (i - P.length) k := by
  unfold seg
  rw [List.drop_append, List.drop_eq_nil_of_le h, List.nil_append]
theorem seg_len (d : List α) (i k : Nat) : (seg d i k).length = min k (d.length - i) := by
  unfold seg; rw [List.length_take, List.length_drop]
theorem seg_all {d : List α} {k : Nat} (h : d.length ≤ k) : seg d 0 k = d := by
  unfold seg; rw [List.drop_zero, List.take_of_length_le h]
theorem seg_end {d : List α} {i k : Nat} (h : d.length ≤ i) : seg d i k = [] := by
  unfold seg; rw [List.drop_eq_nil_of_le h, List.take_nil]
theorem seg_rest {d : List α} {i k : Nat} (h : d.length ≤ i + k) : seg d i k = d.drop i := by
  unfold seg; rw [List.take_of_length_le (by simp; omega)]
/-- A part in the midst is put anew: the parts ahead and behind stay. -/
theorem seg_same_lo {P X M Q : List α} {i k : Nat} (h : i + k ≤ P.length) : seg (P ++ M ++ Q) i k = seg (P ++ X ++ Q) i k := by
  rw [List.append_assoc, List.append_assoc, seg_pre h, seg_pre h]
theorem seg_same_hi {P X M Q : List α} {i k : Nat} (hl : M.length = X.length) (h : P.length + X.length ≤ i) : seg (P ++ M ++ Q) i k = seg (P ++ X ++ Q) i k := by
  have e1 : (P ++ M).length = (P ++ X).length := by simp [hl]
  rw [seg_post (P := P ++ M) (by rw [e1]; simp; omega), seg_post (P := P ++ X) (by simp; omega), e1]
theorem seg_new {P M Q : List α} : seg (P ++ M ++ Q) P.length M.length = M := by
  rw [List.append_assoc, seg_post (Nat.le_refl _), Nat.sub_self]
  unfold seg
  simp
theorem cls_mid {P X M Q : List α} (h : Cls lt X M) : Cls lt (P ++ X ++ Q) (P ++ M ++ Q) := ((Cls.refl P).app h).app (Cls.refl Q)
/-- Blocks of bs that are in order: those ahead of place t are merged in twos. -/
structure Mrg (lt : α → α → Bool) (bs t : Nat) (d : List α) : Prop where
  big : ∀ s, s < t → Srt lt (seg d (s * (2 * bs)) (2 * bs))
  small : ∀ s, 2 * t ≤ s → Srt lt (seg d (s * bs) bs)
theorem Mrg.zero {bs : Nat} {d : List α} (h : ∀ s, Srt lt (seg d (s * bs) bs)) : Mrg lt bs 0 d := ⟨fun _ h9 => by omega, fun s _ => h s⟩
theorem Mrg.parts {bs t : Nat} {d : List α} (h : Mrg lt bs t d) : Srt lt (seg d (t * (2 * bs)) bs) ∧ Srt lt (seg d (t * (2 * bs) + bs) bs) := by
  have e1 : 2 * t * bs = t * (2 * bs) := by rw [Nat.mul_comm 2 t, Nat.mul_assoc]
  have h1 := h.small (2 * t) (Nat.le_refl _)
  have h2 := h.small (2 * t + 1) (by omega)
  rw [e1] at h1
  rw [Nat.add_mul, e1, Nat.one_mul] at h2
  exact ⟨h1, h2⟩
theorem Mrg.step {bs t : Nat} {d M : List α} (h : Mrg lt bs t d) (hb : t * (2 * bs) + 2 * bs ≤ d.length) (hM : M.length = 2 * bs) (hs : Srt lt M) :
    Mrg lt bs (t + 1) (d.take (t * (2 * bs)) ++ M ++ d.drop (t * (2 * bs) + 2 * bs)) := by
  have hP : (d.take (t * (2 * bs))).length = t * (2 * bs) := by rw [List.length_take]; omega
  have hX : (seg d (t * (2 * bs)) (2 * bs)).length = 2 * bs := by rw [seg_len]; omega
  have hd := seg_split d (t * (2 * bs)) (2 * bs)
  refine ⟨fun s hs9 => ?_, fun s hs9 => ?_⟩
  · by_cases hst : s = t
    · subst hst
      have := seg_new (P := d.take (s * (2 * bs))) (M := M) (Q := d.drop (s * (2 * bs) + 2 * bs))
      rw [hP, hM] at this
      rw [this]; exact hs
    · have h1 : (s + 1) * (2 * bs) ≤ t * (2 * bs) := Nat.mul_le_mul_right _ (by omega)
      rw [Nat.add_mul, Nat.one_mul] at h1
      rw [seg_same_lo (X := seg d (t * (2 * bs)) (2 * bs)) (by rw [hP]; exact h1), ← hd]
      exact h.big s (by omega)
  · have h1 : (2 * (t + 1)) * bs ≤ s * bs := Nat.mul_le_mul_right _ hs9
    have e1 : 2 * (t + 1) * bs = t * (2 * bs) + 2 * bs := by rw [Nat.mul_add, Nat.add_mul, Nat.mul_comm 2 t, Nat.mul_assoc]
    rw [seg_same_hi (X := seg d (t * (2 * bs)) (2 * bs)) (by rw [hM, hX]) (by rw [hP, hX]; omega), ← hd]
    exact h.small s (by omega)
/-- All are merged. -/
theorem Mrg.last {bs t : Nat} {d : List α} (h : Mrg lt bs t d) (hb : d.length < t * (2 * bs) + 2 * bs) (hm : d.length ≤ t * (2 * bs) + bs) : ∀ s, Srt lt (seg d (s * (2 * bs)) (2 * bs)) := by
  intro s
  by_cases hst : s < t
  · exact h.big s hst
  · by_cases hs : s = t
    · subst hs
      have h1 := h.parts.1
      rw [seg_rest (by omega)] at h1
      rw [seg_rest (by omega)]; exact h1
    · have h1 : (t + 1) * (2 * bs) ≤ s * (2 * bs) := Nat.mul_le_mul_right _ (by omega)
      rw [Nat.add_mul, Nat.one_mul] at h1
      rw [seg_end (by omega)]; exact srt_nil
theorem Mrg.tail {bs t : Nat} {d M : List α} (h : Mrg lt bs t d) (hb : d.length < t * (2 * bs) + 2 * bs) (ha : t * (2 * bs) ≤ d.length) (hM : M.length = d.length - t * (2 * bs)) (hs : Srt lt M) :
    ∀ s, Srt lt (seg (d.take (t * (2 * bs)) ++ M) (s * (2 * bs)) (2 * bs)) := by
  have hP : (d.take (t * (2 * bs))).length = t * (2 * bs) := by rw [List.length_take]; omega
  intro s
  by_cases hst : s < t
  · have h1 : (s + 1) * (2 * bs) ≤ t * (2 * bs) := Nat.mul_le_mul_right _ (by omega)
    rw [Nat.add_mul, Nat.one_mul] at h1
    rw [seg_pre (by rw [hP]; exact h1)]
    have h2 := h.big s hst
    rw [← List.take_append_drop (t * (2 * bs)) d, seg_pre (by rw [hP]; exact h1)] at h2
    exact h2
  · by_cases hs9 : s = t
    · subst hs9
      rw [seg_post (by rw [hP]; exact Nat.le_refl _), hP, Nat.sub_self, seg_all (by omega)]; exact hs
    · have h1 : (t + 1) * (2 * bs) ≤ s * (2 * bs) := Nat.mul_le_mul_right _ (by omega)
      rw [Nat.add_mul, Nat.one_mul] at h1
      rw [seg_end (by rw [List.length_append, hP]; omega)]; exact srt_nil
/-- The first blocks are in order. -/
def Blk (lt : α → α → Bool) (bs t : Nat) (d : List α) : Prop := ∀ s, s < t → Srt lt (seg d (s * bs) bs)
theorem Blk.step {bs t : Nat} {d M : List α} (h : Blk lt bs t d) (hb : t * bs + bs ≤ d.length) (hM : M.length = bs) (hs : Srt lt M) : Blk lt bs (t + 1) (d.take (t * bs) ++ M ++ d.drop (t * bs + bs)) := by
  have hP : (d.take (t * bs)).length = t * bs := by rw [List.length_take]; omega
  have hX : (seg d (t * bs) bs).length = bs := by rw [seg_len]; omega
  have hd := seg_split d (t * bs) bs
  intro s hs9
  by_cases hst : s = t
  · subst hst
    have := seg_new (P := d.take (s * bs)) (M := M) (Q := d.drop (s * bs + bs))
    rw [hP, hM] at this
    rw [this]; exact hs
  · have h1 : (s + 1) * bs ≤ t * bs := Nat.mul_le_mul_right _ (by omega)
    rw [Nat.add_mul, Nat.one_mul] at h1
    rw [seg_same_lo (X := seg d (t * bs) bs) (by rw [hP]; exact h1), ← hd]
    exact h s (by omega)
theorem Blk.last {bs t : Nat} {d M : List α} (h : Blk lt bs t d) (ha : t * bs ≤ d.length) (hb : d.length < t * bs + bs) (hM : M.length = d.length - t * bs) (hs : Srt lt M) : ∀ s, Srt lt (seg (d.take (t * bs) ++ M) (s * bs) bs) := by
  have hP : (d.take (t * bs)).length = t * bs := by rw [List.length_take]; omega
  intro s
  by_cases hst : s < t
  · have h1 : (s + 1) * bs ≤ t * bs := Nat.mul_le_mul_right _ (by omega)
    rw [Nat.add_mul, Nat.one_mul] at h1
    rw [seg_pre (by rw [hP]; exact h1)]
    have h2 := h s hst
    rw [← List.take_append_drop (t * bs) d, seg_pre (by rw [hP]; exact h1)] at h2
    exact h2
  · by_cases hs9 : s = t
    · subst hs9
      rw [seg_post (by rw [hP]; exact Nat.le_refl _), hP, Nat.sub_self, seg_all (by omega)]; exact hs
    · have h1 : (t + 1) * bs ≤ s * bs := Nat.mul_le_mul_right _ (by omega)
      rw [Nat.add_mul, Nat.one_mul] at h1
      rw [seg_end (by rw [List.length_append, hP]; omega)]; exact srt_nil
end
end Go.Proofs.YtpkkkhgmkndpdaaGreatDoor
namespace Go.Proofs.YtpkkkhgmkndpdaaGreatDoor
open Go Go.RowKit Go.Proofs
theorem lessE_swo : Swo lessE where
  asym := fun {a b} h => by
    rcases cmpE_cases a b with ⟨_, _, _, h4⟩ | ⟨_, _, h3, _⟩ | ⟨_, _, h3, _⟩
    · exact h4
    · rw [h] at h3; cases h3
    · rw [h] at h3; cases h3
  ntrans := fun {a b c} h1 h2 => by
    have e1 : cmpE b a ≤ 0 := by
      rcases cmpE_cases a b with ⟨_, _, h3, _⟩ | ⟨_, h2, _⟩ | ⟨_, h2, _⟩
      · rw [h1] at h3; cases h3
      · omega
      · omega
    have e2 : cmpE c b ≤ 0 := by
      rcases cmpE_cases b c with ⟨_, _, h3, _⟩ | ⟨_, h2', _⟩ | ⟨_, h2', _⟩
      · rw [h2] at h3; cases h3
      · omega
      · omega
    have e3 := (cmpE_trans e2 e1).1
    rcases cmpE_cases a c with ⟨_, h2', _⟩ | ⟨_, _, h3, _⟩ | ⟨_, _, h3, _⟩
    · omega
    · exact h3
    · exact h3
theorem cmpE_neg {a b : Ev} : decide (cmpE a b < 0) = lessE a b := by
  rcases cmpE_cases a b with ⟨h1, _, h3, _⟩ | ⟨h1, _, h3, _⟩ | ⟨h1, _, h3, _⟩ <;> rw [h1, h3] <;> rfl
/-- A row of events: block g, from cell o on, S cells in all. -/
def Row (w : World) (g o S : Nat) (d : List Ev) : Prop :=
  ∃ C : Array Value, w.heap[g]? = some (.cells C 30) ∧ C.size = S ∧ ∀ (k : Nat) (e : Ev), d[k]? = some e → ∀ (j : Nat) (v : Value), (evL e)[j]? = some v → C[o + k * 8 + j]? = some v
def put8 (C : Array Value) (p : Nat) (e : Ev) : Array Value :=
  (((((((C.setIfInBounds p (.string e.src)).setIfInBounds (p + 1) (.int .i64 e.num)).setIfInBounds (p + 2) (.int .i64 e.tick)).setIfInBounds (p + 3) (.int .i64 e.kind)).setIfInBounds (p + 4) (.string e.person)).setIfInBounds (p + 5) (.string e.item)).setIfInBounds (p + 6) (.int .i64 e.value)).setIfInBounds (p + 7) (.string e.text)
theorem put8_size (C : Array Value) (p : Nat) (e : Ev) : (put8 C p e).size = C.size := by simp [put8]
theorem put8_in {C : Array Value} {p : Nat} {e : Ev} {j : Nat} (hj : j < 8) (hs : p + 8 ≤ C.size) : (put8 C p e)[p + j]? = (evL e)[j]? := by
  have h8 : j = 0 ∨ j = 1 ∨ j = 2 ∨ j = 3 ∨ j = 4 ∨ j = 5 ∨ j = 6 ∨ j = 7 := by omega
  have g0 : p < C.size := by omega
  have g1 : p + 1 < C.size := by omega
  have g2 : p + 2 < C.size := by omega
  have g3 : p + 3 < C.size := by omega
  have g4 : p + 4 < C.size := by omega
  have g5 : p + 5 < C.size := by omega
  have g6 : p + 6 < C.size := by omega
  have g7 : p + 7 < C.size := by omega
  rcases h8 with rfl | rfl | rfl | rfl | rfl | rfl | rfl | rfl <;> simp [put8, evL, g0, g1, g2, g3, g4, g5, g6, g7]
theorem put8_out {C : Array Value} {p : Nat} {e : Ev} {q : Nat} (hq : q < p ∨ p + 8 ≤ q) : (put8 C p e)[q]? = C[q]? := by
  have n0 : p ≠ q := by omega
  have n1 : p + 1 ≠ q := by omega
  have n2 : p + 2 ≠ q := by omega
  have n3 : p + 3 ≠ q := by omega
  have n4 : p + 4 ≠ q := by omega
  have n5 : p + 5 ≠ q := by omega
  have n6 : p + 6 ≠ q := by omega
  have n7 : p + 7 ≠ q := by omega
  simp [put8, n0, n1, n2, n3, n4, n5, n6, n7]
def set8 (w : World) (g p : Nat) (e : Ev) : World :=
  (((((((w.setCell ⟨g, p, none⟩ (.string e.src)).setCell ⟨g, p + 1, none⟩ (.int .i64 e.num)).setCell ⟨g, p + 2, none⟩ (.int .i64 e.tick)).setCell ⟨g, p + 3, none⟩ (.int .i64 e.kind)).setCell ⟨g, p + 4, none⟩ (.string e.person)).setCell ⟨g, p + 5, none⟩ (.string e.item)).setCell ⟨g, p + 6, none⟩ (.int .i64 e.value)).setCell ⟨g, p + 7, none⟩ (.string e.text)
theorem set8_blk {w : World} {g p : Nat} {e : Ev} {C : Array Value} {t : TypeId} {fr : Nat × Nat} (h : w.heap[g]? = some (.cells C t fr)) : (set8 w g p e).heap[g]? = some (.cells (put8 C p e) t fr) :=
  blk_set (blk_set (blk_set (blk_set (blk_set (blk_set (blk_set (blk_set h _ _) _ _) _ _) _ _) _ _) _ _) _ _) _ _
theorem set8_keeps {w : World} {g p : Nat} {e : Ev} : Keeps (fun k => k ≠ g) w (set8 w g p e) := by
  unfold set8
  repeat (first | with_reducible exact Keeps.refl _ _ | with_reducible refine Keeps.setCell ?_ (fun _ h => absurd rfl h) _)
theorem Row.cells {w : World} {g o S : Nat} {d : List Ev} (h : Row w g o S d) {k : Nat} {e : Ev} (hk : d[k]? = some e) :
    w.cell? ⟨g, o + k * 8, none⟩ = some (.string e.src) ∧ w.cell? ⟨g, o + k * 8 + 1, none⟩ = some (.int .i64 e.num) ∧ w.cell? ⟨g, o + k * 8 + 2, none⟩ = some (.int .i64 e.tick) ∧ w.cell? ⟨g, o + k * 8 + 3, none⟩ = some (.int .i64 e.kind) ∧
    w.cell? ⟨g, o + k * 8 + 4, none⟩ = some (.string e.person) ∧ w.cell? ⟨g, o + k * 8 + 5, none⟩ = some (.string e.item) ∧ w.cell? ⟨g, o + k * 8 + 6, none⟩ = some (.int .i64 e.value) ∧ w.cell? ⟨g, o + k * 8 + 7, none⟩ = some (.string e.text) := by
  obtain ⟨C, hg, _, hc⟩ := h
  have c := fun j v hj => blk_cell hg (o + k * 8 + j) (hc k e hk j v hj)
  exact ⟨c 0 _ rfl, c 1 _ rfl, c 2 _ rfl, c 3 _ rfl, c 4 _ rfl, c 5 _ rfl, c 6 _ rfl, c 7 _ rfl⟩
theorem Row.free {w : World} {g o S : Nat} {d : List Ev} (h : Row w g o S d) (j : Nat) : w.frozen? ⟨g, j, none⟩ = false := by
  obtain ⟨C, hg, _, _⟩ := h
  exact blk_free hg j
theorem Row.lt {w : World} {g o S : Nat} {d : List Ev} (h : Row w g o S d) : g < w.heap.size := by
  obtain ⟨C, hg, _, _⟩ := h
  exact (Array.getElem?_eq_some_iff.1 hg).1
theorem Row.keep {w w' : World} {g o S : Nat} {d : List Ev} {ok : Nat → Prop} (h : Row w g o S d) (hk : Keeps ok w w') (ho : ok g) : Row w' g o S d := by
  obtain ⟨C, hg, hs, hc⟩ := h
  exact ⟨C, hk.blk hg ho, hs, hc⟩
theorem Row.ext {w w' : World} {g o S : Nat} {d : List Ev} (h : Row w g o S d) (hk : Ext w w') : Row w' g o S d := h.keep hk trivial
theorem Row.set {w : World} {g o S : Nat} {d : List Ev} (h : Row w g o S d) {k : Nat} (hk : k < d.length) (e : Ev) : Row (set8 w g (o + k * 8) e) g o S (d.set k e) := by
  obtain ⟨C, hg, hs, hc⟩ := h
  have h7 := hc k d[k] (List.getElem?_eq_getElem hk) 7 _ rfl
  have h7' : o + k * 8 + 7 < C.size := (Array.getElem?_eq_some_iff.1 h7).1
  refine ⟨put8 C (o + k * 8) e, set8_blk hg, by rw [put8_size]; exact hs, fun k' e' hk' j v hj => ?_⟩
  have hj8 : j < 8 := (List.getElem?_eq_some_iff.1 hj).1
  rw [List.getElem?_set] at hk'
  by_cases h1 : k = k'
  · subst h1
    rw [if_pos rfl, if_pos hk] at hk'
    have he : e = e' := Option.some.inj hk'
    rw [← he] at hj
    exact (put8_in (C := C) (p := o + k * 8) (e := e) hj8 (by omega)).trans hj
  · rw [if_neg h1] at hk'
    exact (put8_out (C := C) (p := o + k * 8) (e := e) (by omega)).trans (hc k' e' hk' j v hj)
/-- Two events change places. -/
theorem set_swap {P M R : List Ev} {x y : Ev} {i j : Nat} (hi : P.length = i) (hj : i + 1 + M.length = j) : ((P ++ x :: M ++ y :: R).set i y).set j x = P ++ y :: M ++ x :: R := by
  subst hi hj
  have h1 : (P ++ x :: M ++ y :: R).set P.length y = P ++ y :: M ++ y :: R := by simp
  rw [h1]
  have h2 : (P ++ y :: M).length = P.length + 1 + M.length := by simp; omega
  rw [← h2]; simp
theorem set_swap' {P M R : List Ev} {x y : Ev} {i j : Nat} (hi : P.length = i) (hj : i + 1 + M.length = j) : ((P ++ x :: M ++ y :: R).set j x).set i y = P ++ y :: M ++ x :: R := by
  rw [List.set_comm _ _ (by omega)]; exact set_swap hi hj
end Go.Proofs.YtpkkkhgmkndpdaaGreatDoor
