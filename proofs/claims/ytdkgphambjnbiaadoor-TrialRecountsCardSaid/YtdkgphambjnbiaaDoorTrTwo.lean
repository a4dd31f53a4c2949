/-
  What is proved here: two books beside each other; a trial with one arm alone; sums over the first arms; reports hang on no order. No program is in sight. No condition but those told.
-/
import Derived.Test.YtdkgphambjnbiaaDoorTrRepZ
namespace Go.Proofs.YtdkgphambjnbiaaDoor
open Go Go.RowKit Go.Proofs
/-! ### two books -/
theorem BookX.keep {w w' : World} {b m lim : Nat} {v : Value} {outer : List (ByteArray × Nat)} {ts : List Tr} {xs : ByteArray → List (ByteArray × Int)} (h : BookX w b m lim v outer ts xs) (hk : Keeps (fun k => (m ≤ k ∧ k < lim) ∨ ∃ p ∈ outer, p.2 = k) w w') : BookX w' b m lim v outer ts xs := by
  have h1 := h.mb
  have h2 := h.bl
  refine ⟨hk.blk h.blk (.inl ⟨by omega, h2⟩), h.own.keep (hk.mono fun k _ hh => .inl ⟨by have := hh.1.1; omega, hh.1.2⟩) (fun g hg => ?_), h.row, h1, h2, Nat.le_trans h.lw hk.size, h.mp.keep hk (.inl ⟨Nat.le_refl _, by omega⟩), h.far, h.nd, fun p hp => (h.inn p hp).keep hk (.inr ⟨p, hp, rfl⟩), h.none⟩
  obtain ⟨h3, h4⟩ := h.own.lt g hg
  exact hk.block g h4 (.inl ⟨by omega, h.row g hg⟩)
structure TwoAt (w W : World) (b m lim : Nat) (v : Value) (l : List Tr) (b' m' lim' : Nat) (v' : Value) (l' : List Tr) (outer outer' : List (ByteArray × Nat)) (xs xs' : ByteArray → List (ByteArray × Int)) : Prop where
  bk : BookX W b m lim v outer l xs
  bk' : BookX W b' m' lim' v' outer' l' xs'
  lm : lim ≤ m'
  far : ∀ p ∈ outer, lim' ≤ p.2
  dis : ∀ p ∈ outer, ∀ q ∈ outer', p.2 ≠ q.2
  ext : Ext w W
  mw : w.heap.size ≤ m
section
variable {w W W1 W2 : World} {b m lim b' m' lim' : Nat} {v v' : Value} {l l' : List Tr} {outer outer' o2 : List (ByteArray × Nat)} {xs xs' xs2 : ByteArray → List (ByteArray × Int)}
theorem TwoAt.on (h : TwoAt w W b m lim v l b' m' lim' v' l' outer outer' xs xs') (hx : Ext W W1) : TwoAt w W1 b m lim v l b' m' lim' v' l' outer outer' xs xs' :=
  ⟨h.bk.ext hx, h.bk'.ext hx, h.lm, h.far, h.dis, h.ext.trans hx, h.mw⟩
theorem TwoAt.stepA (h : TwoAt w W b m lim v l b' m' lim' v' l' outer outer' xs xs') (hb : BookX W2 b m lim v o2 l xs2) (hk : Keeps (fun g => g ≠ m ∧ ∀ p ∈ outer, p.2 ≠ g) W W2) (ho : ∀ p ∈ o2, p ∈ outer ∨ W.heap.size ≤ p.2) :
    TwoAt w W2 b m lim v l b' m' lim' v' l' o2 outer' xs2 xs' := by
  have e1 := h.bk.mb
  have e2 := h.bk.bl
  have e3 := h.bk'.mb
  have e4 := h.bk'.bl
  have e5 := h.bk'.lw
  have e6 := h.lm
  have e7 := h.mw
  refine ⟨hb, h.bk'.keep (hk.mono fun k _ hh => ?_), h.lm, fun p hp => ?_, fun p hp q hq => ?_, Keeps.then_ h.ext hk (fun i hi _ => ⟨by omega, fun p hp e => by have := h.far p hp; omega⟩), h.mw⟩
  · rcases hh with ⟨h1, h2⟩ | ⟨q, hq, rfl⟩
    · exact ⟨by omega, fun p hp e => by have := h.far p hp; omega⟩
    · exact ⟨by have := h.bk'.far q hq; omega, fun p hp => h.dis p hp q hq⟩
  · rcases ho p hp with h1 | h1
    · exact h.far p h1
    · omega
  · rcases ho p hp with h1 | h1
    · exact h.dis p h1 q hq
    · have := h.bk'.in_ q hq; omega
theorem TwoAt.stepB (h : TwoAt w W b m lim v l b' m' lim' v' l' outer outer' xs xs') (hb : BookX W2 b' m' lim' v' o2 l' xs2) (hk : Keeps (fun g => g ≠ m' ∧ ∀ p ∈ outer', p.2 ≠ g) W W2) (ho : ∀ p ∈ o2, p ∈ outer' ∨ W.heap.size ≤ p.2) :
    TwoAt w W2 b m lim v l b' m' lim' v' l' outer o2 xs xs2 := by
  have e1 := h.bk.mb
  have e2 := h.bk.bl
  have e3 := h.bk'.mb
  have e4 := h.bk'.bl
  have e5 := h.bk'.lw
  have e6 := h.lm
  have e7 := h.mw
  refine ⟨h.bk.keep (hk.mono fun k _ hh => ?_), hb, h.lm, h.far, fun p hp q hq => ?_, Keeps.then_ h.ext hk (fun i hi _ => ⟨by omega, fun p hp e => by have := h.bk'.far p hp; omega⟩), h.mw⟩
  · rcases hh with ⟨h1, h2⟩ | ⟨q, hq, rfl⟩
    · exact ⟨by omega, fun p hp e => by have := h.bk'.far p hp; omega⟩
    · exact ⟨by have := h.far q hq; omega, fun p hp e => h.dis q hq p hp e.symm⟩
  · rcases ho q hq with h1 | h1
    · exact h.dis p hp q h1
    · have := h.bk.in_ p hp; omega
end
/-! ### a trial with one arm alone -/
def allB : ByteArray := ⟨#[97, 108, 108]⟩
def oneT (t : Tr) : Tr := ⟨t.name, t.layer, t.lo, t.hi, [allB]⟩
theorem armsOk_one : armsOk [allB] = true := by decide +kernel
theorem mayT_one {t : Tr} (h : mayT t = true) : mayT (oneT t) = true := by
  have p := mayT_parts h
  rw [mayT_mid (t := oneT t) p.name p.layer p.lo p.lt p.hi (by simp [oneT]) (by simp [oneT])]
  exact armsOk_one
theorem inT_one {t : Tr} (h : mayT t = true) (p : ByteArray) : inT (oneT t) p = inT t p := by
  unfold inT; rw [mayT_one h, h]; rfl
theorem okX_single (t : Tr) (e : Xp) : okX [t] e = (t.name == e.trial && expT t e.person e.tick) := by
  unfold okX
  rw [List.findIdx?_cons]
  cases h : (t.name == e.trial)
  · simp
  · simp
theorem okX_one {t : Tr} (h : mayT t = true) (e : Xp) : okX [oneT t] e = okX [t] e := by
  rw [okX_single, okX_single]
  unfold expT
  rw [inT_one h]; rfl
theorem hadOf_one {t : Tr} (h : mayT t = true) (x : List Xp) : hadOf [oneT t] x = hadOf [t] x := by
  unfold hadOf; congr 1; funext e; exact okX_one h e
theorem armNo_one (t : Tr) (p : ByteArray) : armNo (oneT t) p = 0 := by
  have := armNo_in (oneT t) p (by simp [oneT])
  have h2 : ((oneT t).arms.length : Int) = 1 := by simp [oneT]
  omega
def bghtA (cs : List Ev) : Nat := cs.countP (fun e => e.kind == 3)
def wrthA : List Ev → Int
  | [] => 0
  | e :: cs => worthE e + wrthA cs
theorem wrthN_one (t : Tr) : ∀ cs, wrthN (oneT t) 0 cs = wrthA cs
  | [] => rfl
  | e :: cs => by simp only [wrthN, wrthA, armNo_one, wrthN_one t cs]; simp
theorem rowsE_one (t : Tr) (ds : List ByteArray) (cs : List Ev) : rowsE (oneT t) ds cs = [⟨allB, (ds.length : Nat), (bghtA cs : Nat), wrthA cs⟩] := by
  unfold rowsE
  have h1 : ds.countP (fun d => armNo (oneT t) d == ((0 : Nat) : Int)) = ds.length := by
    rw [List.countP_eq_length]; intro d _; rw [armNo_one]; rfl
  have h2 : bghtN (oneT t) cs 0 = bghtA cs := by
    unfold bghtN bghtA
    congr 1; funext e; rw [armNo_one]; simp
  have h3 := wrthN_one t cs
  show [(⟨allB, (ds.countP (fun d => armNo (oneT t) d == ((0 : Nat) : Int)) : Nat), (bghtN (oneT t) cs 0 : Nat), wrthN (oneT t) 0 cs⟩ : Rw)] = _
  rw [h1, h2, h3]
/-! ### sums over the first arms -/
def pplLt (t : Tr) (ds : List ByteArray) (k : Nat) : Nat := ds.countP (fun d => decide (armNo t d < (k : Int)))
def bghtLt (t : Tr) (cs : List Ev) (k : Nat) : Nat := cs.countP (fun e => decide (armNo t e.person < (k : Int)) && e.kind == 3)
def wrthLt (t : Tr) (k : Nat) : List Ev → Int
  | [] => 0
  | e :: cs => (if armNo t e.person < (k : Int) then worthE e else 0) + wrthLt t k cs
theorem pplLt_step (t : Tr) (k : Nat) : ∀ ds, pplLt t ds (k + 1) = pplLt t ds k + ds.countP (fun d => armNo t d == (k : Int))
  | [] => rfl
  | d :: ds => by
    have ih := pplLt_step t k ds
    unfold pplLt at ih ⊢
    simp only [List.countP_cons, ih, decide_eq_true_eq, beq_iff_eq]
    split <;> split <;> split <;> omega
theorem bghtLt_step (t : Tr) (k : Nat) : ∀ cs, bghtLt t cs (k + 1) = bghtLt t cs k + bghtN t cs k
  | [] => rfl
  | e :: cs => by
    have ih := bghtLt_step t k cs
    unfold bghtLt bghtN at ih ⊢
    simp only [List.countP_cons, ih, Bool.and_eq_true, decide_eq_true_eq, beq_iff_eq]
    by_cases h3 : e.kind = 3
    · simp only [h3, and_true]
      split <;> split <;> split <;> omega
    · simp only [h3, and_false, if_false]; omega
theorem wrthLt_step (t : Tr) (k : Nat) : ∀ cs, wrthLt t (k + 1) cs = wrthLt t k cs + wrthN t k cs
  | [] => rfl
  | e :: cs => by
    simp only [wrthLt, wrthN, wrthLt_step t k cs]
    split <;> split <;> split <;> omega
theorem pplLt_zero (t : Tr) (h : 1 ≤ t.arms.length) (ds : List ByteArray) : pplLt t ds 0 = 0 := by
  unfold pplLt
  rw [List.countP_eq_zero]; intro d _; have := (armNo_in t d h).1; simp; omega
theorem bghtLt_zero (t : Tr) (h : 1 ≤ t.arms.length) (cs : List Ev) : bghtLt t cs 0 = 0 := by
  unfold bghtLt
  rw [List.countP_eq_zero]; intro e _; have := (armNo_in t e.person h).1; simp; omega
theorem wrthLt_zero (t : Tr) (h : 1 ≤ t.arms.length) : ∀ cs, wrthLt t 0 cs = 0
  | [] => rfl
  | e :: cs => by
    have := (armNo_in t e.person h).1
    simp only [wrthLt, wrthLt_zero t h cs]
    rw [if_neg (by omega)]; rfl
theorem pplLt_all (t : Tr) (h : 1 ≤ t.arms.length) (ds : List ByteArray) : pplLt t ds t.arms.length = ds.length := by
  unfold pplLt
  rw [List.countP_eq_length]; intro d _; have := (armNo_in t d h).2; simpa using this
theorem bghtLt_all (t : Tr) (h : 1 ≤ t.arms.length) (cs : List Ev) : bghtLt t cs t.arms.length = bghtA cs := by
  unfold bghtLt bghtA
  congr 1; funext e; have := (armNo_in t e.person h).2; simp [this]
theorem wrthLt_all (t : Tr) (h : 1 ≤ t.arms.length) : ∀ cs, wrthLt t t.arms.length cs = wrthA cs
  | [] => rfl
  | e :: cs => by
    have := (armNo_in t e.person h).2
    simp only [wrthLt, wrthA, wrthLt_all t h cs]
    rw [if_pos this]
theorem wrthLt_in (t : Tr) (k : Nat) : ∀ cs, (∀ e ∈ cs, mayE e = true) → 0 ≤ wrthLt t k cs ∧ wrthLt t k cs ≤ 5 * (cs.length : Int)
  | [], _ => by simp [wrthLt]
  | a :: cs, h => by
    have h1 := wrthLt_in t k cs (fun e he => h e (by simp [he]))
    have h2 := worth_in (h a (by simp))
    simp only [wrthLt, List.length_cons]
    split <;> omega
theorem pplLt_len (t : Tr) (ds : List ByteArray) (k : Nat) : pplLt t ds k ≤ ds.length := List.countP_le_length
theorem bghtLt_len (t : Tr) (cs : List Ev) (k : Nat) : bghtLt t cs k ≤ cs.length := List.countP_le_length
/-! ### no order -/
theorem sinceStep_comm {name p : ByteArray} {x y : Xp} (hx : 0 ≤ x.tick) (hy : 0 ≤ y.tick) (a : Int) : sinceStep name p (sinceStep name p a x) y = sinceStep name p (sinceStep name p a y) x := by
  unfold sinceStep
  cases hmx : (x.trial == name) && (x.person == p) <;> cases hmy : (y.trial == name) && (y.person == p) <;> simp only [Bool.false_and, Bool.true_and, Bool.false_eq_true, if_false, Bool.or_eq_true, decide_eq_true_eq] <;> (try rfl)
  repeat (first | omega | split)
theorem since_perm {H H' : List Xp} (h : H.Perm H') (h0 : ∀ x ∈ H, 0 ≤ x.tick) (name p : ByteArray) : sinceX H name p = sinceX H' name p :=
  h.foldl_eq' (fun x hx y hy a => sinceStep_comm (h0 x hx) (h0 y hy) a) _
theorem get_perm {H H' : List Xp} (h : H.Perm H') (h0 : ∀ x ∈ H, 0 ≤ x.tick) (name p : ByteArray) : getM (fun a b : ByteArray => a == b) (xsOf H name) p = getM (fun a b : ByteArray => a == b) (xsOf H' name) p := by
  obtain ⟨h1, h2⟩ := since_is h0 name p
  obtain ⟨h3, h4⟩ := since_is (fun x hx => h0 x (h.mem_iff.2 hx)) name p
  rw [since_perm h h0] at h1
  rw [h1] at h3
  cases e1 : getM (fun a b : ByteArray => a == b) (xsOf H name) p with
  | none =>
    cases e2 : getM (fun a b : ByteArray => a == b) (xsOf H' name) p with
    | none => rfl
    | some s => have := h4 s e2; rw [e1, e2] at h3; simp at h3; omega
  | some s =>
    have h5 := h2 s e1
    cases e2 : getM (fun a b : ByteArray => a == b) (xsOf H' name) p with
    | none => rw [e1, e2] at h3; simp at h3; omega
    | some s' => rw [e1, e2] at h3; simp at h3; rw [h3]
theorem cntX_perm {H H' : List Xp} (h : H.Perm H') (h0 : ∀ x ∈ H, 0 ≤ x.tick) (name : ByteArray) (e : Ev) : cntX (xsOf H name) e = cntX (xsOf H' name) e := by
  unfold cntX; rw [get_perm h h0]
theorem peopleX_nodup (had : List Xp) (name : ByteArray) : ∀ k, (peopleX (had.take k) name).Nodup
  | 0 => by simp [peopleX, xsOf]
  | k + 1 => by
    have ih := peopleX_nodup had name k
    cases hk : had[k]? with
    | none =>
      have hl : had.length ≤ k := by simpa using hk
      rw [List.take_of_length_le hl] at ih
      rw [List.take_of_length_le (by omega)]; exact ih
    | some x =>
      rw [peopleX_take name hk]
      split
      · rename_i h9
        rw [List.nodup_append]
        exact ⟨ih, by simp, fun a ha b hb => by simp at hb; subst hb; rintro rfl; exact h9.2 ha⟩
      · exact ih
theorem peopleX_all (had : List Xp) (name p : ByteArray) : p ∈ peopleX had name ↔ ∃ y ∈ had, y.trial = name ∧ y.person = p := by
  have := peopleX_mem had.length had name p
  rwa [List.take_of_length_le (Nat.le_refl _)] at this
theorem people_perm {H H' : List Xp} (h : H.Perm H') (name : ByteArray) : (peopleX H name).Perm (peopleX H' name) := by
  have n1 := peopleX_nodup H name H.length
  have n2 := peopleX_nodup H' name H'.length
  rw [List.take_of_length_le (Nat.le_refl _)] at n1 n2
  rw [List.perm_ext_iff_of_nodup n1 n2]
  intro p
  rw [peopleX_all, peopleX_all]
  constructor
  · rintro ⟨y, hy, h1⟩; exact ⟨y, h.mem_iff.1 hy, h1⟩
  · rintro ⟨y, hy, h1⟩; exact ⟨y, h.mem_iff.2 hy, h1⟩
theorem wrthN_perm (t : Tr) (j : Nat) {cs cs' : List Ev} (h : cs.Perm cs') : wrthN t j cs = wrthN t j cs' := by
  induction h with
  | nil => rfl
  | cons a _ ih => simp only [wrthN, ih]
  | swap a b l => simp only [wrthN]; omega
  | trans _ _ h1 h2 => exact h1.trans h2
theorem rowsE_perm {t : Tr} {ds ds' : List ByteArray} {cs cs' : List Ev} (h1 : ds.Perm ds') (h2 : cs.Perm cs') : rowsE t ds cs = rowsE t ds' cs' := by
  unfold rowsE
  congr 1
  funext j a
  rw [h1.countP_eq, wrthN_perm t j h2]
  unfold bghtN
  rw [h2.countP_eq]
/-- Events none of which is another's twin. -/
def ApartL (l : List Ev) : Prop := l.Pairwise fun a b => sameI a b = false
theorem seenL_apart_ : ∀ (l es : List Ev), l.Pairwise (fun a b => sameI a b = false) → (∀ x ∈ es, ∀ y ∈ l, sameI x y = false) → l.foldl seenStep es = es ++ l.filter mayE
  | [], es, _, _ => by simp
  | a :: l, es, hp, hx => by
    rw [List.pairwise_cons] at hp
    have hn : es.any (fun x => sameI x a) = false := by
      rw [List.any_eq_false]; intro x h; have := hx x h a (by simp); rw [this]; decide
    rw [List.foldl_cons]
    have hs : seenStep es a = if mayE a then es ++ [a] else es := by unfold seenStep; rw [hn]; simp
    rw [hs]
    cases hm : mayE a
    · rw [if_neg (by decide), seenL_apart_ l es hp.2 (fun x h y hy => hx x h y (by simp [hy])), List.filter_cons_of_neg (by rw [hm]; decide)]
    · rw [if_pos rfl, seenL_apart_ l (es ++ [a]) hp.2 (fun x h y hy => ?_), List.filter_cons_of_pos hm]
      · simp
      · rcases List.mem_append.1 h with h | h
        · exact hx x h y (by simp [hy])
        · simp at h; subst h; exact hp.1 y hy
theorem seenL_apart {l : List Ev} (h : ApartL l) : seenL l = l.filter mayE := by
  unfold seenL; rw [seenL_apart_ l [] h (fun x hx => by cases hx)]; rfl
theorem sameI_comm (a b : Ev) : sameI a b = sameI b a := by
  rw [Bool.eq_iff_iff, sameI_iff, sameI_iff]; exact ⟨fun h => ⟨h.1.symm, h.2.symm⟩, fun h => ⟨h.1.symm, h.2.symm⟩⟩
theorem apart_of {l : List Ev} (h : ∀ (i : Nat) (a : Ev), l[i]? = some a → ∀ (k : Nat) (b : Ev), k < i → l[k]? = some b → sameI a b = false) : ApartL l := by
  unfold ApartL
  rw [List.pairwise_iff_getElem]
  intro i j hi hj hij
  rw [sameI_comm]
  exact h j _ (List.getElem?_eq_getElem hj) i _ hij (List.getElem?_eq_getElem hi)
/-- Whom the law exposes: all but the stranger. -/
def expL (t : Tr) (s : ByteArray) (x : List Xp) : List Xp := (x.filter (fun y => !(y.person == s))).map (fun y => ⟨t.name, y.person, y.tick⟩)
theorem expL_app (t : Tr) (s : ByteArray) (x y : List Xp) : expL t s (x ++ y) = expL t s x ++ expL t s y := by unfold expL; rw [List.filter_append, List.map_append]
theorem expL_yes {t : Tr} {s : ByteArray} {y : Xp} (h : (y.person == s) = false) : expL t s [y] = [⟨t.name, y.person, y.tick⟩] := by unfold expL; simp [h]
theorem expL_no {t : Tr} {s : ByteArray} {y : Xp} (h : (y.person == s) = true) : expL t s [y] = [] := by unfold expL; simp [h]
theorem expL_rev (t : Tr) (s : ByteArray) (x : List Xp) : (expL t s x.reverse).Perm (expL t s x) := by
  unfold expL; rw [List.filter_reverse, List.map_reverse]; exact List.reverse_perm _
theorem hadOf_app (l : List Tr) (x y : List Xp) : hadOf l (x ++ y) = hadOf l x ++ hadOf l y := by unfold hadOf; rw [List.filter_append]
/-- One more is exposed. -/
theorem xsOf_more (t : Tr) (H : List Xp) (e : Xp) : xsOf (hadOf [t] (H ++ [e])) = if okX [t] e then xsStep (xsOf (hadOf [t] H)) e else xsOf (hadOf [t] H) := by
  rw [hadOf_app]
  unfold hadOf
  cases h : okX [t] e
  · rw [if_neg (by decide)]; simp [h]
  · rw [if_pos rfl, List.filter_cons_of_pos h, List.filter_nil, xsOf_snoc]
theorem expL_mem {t : Tr} {s : ByteArray} {x : List Xp} {y : Xp} (h : y ∈ expL t s x) : ∃ z ∈ x, y.person = z.person ∧ y.person ≠ s ∧ y.trial = t.name := by
  unfold expL at h
  obtain ⟨z, hz, rfl⟩ := List.mem_map.1 h
  obtain ⟨h1, h2⟩ := List.mem_filter.1 hz
  exact ⟨z, h1, rfl, beq_bytes_false.1 (by simpa using h2), rfl⟩
theorem expL_len (t : Tr) (s : ByteArray) (x : List Xp) : (expL t s x).length ≤ x.length := by unfold expL; rw [List.length_map]; exact List.length_filter_le _ _
/-- The law's plain part: both reports are the same. -/
theorem recount_same {t : Tr} {s : ByteArray} {x : List Xp} {all : List Ev} (hx : ∀ y ∈ x, y.person.size < maxLen) (ha : ApartL all) :
    repL [t] (hadOf [t] (expL t s x)) t.name all = repL [t] (hadOf [t] (expL t s x.reverse)) t.name ((all.filter (fun e => !(e.person == s))).reverse) := by
  have hf : [t].findIdx? (fun o => o.name == t.name) = some 0 := by simp [List.findIdx?_cons, beq_bytes.2 (rfl : t.name = t.name)]
  have hp : (hadOf [t] (expL t s x.reverse)).Perm (hadOf [t] (expL t s x)) := (expL_rev t s x).filter _
  have ho : HadOk [t] (hadOf [t] (expL t s x)) := hadOf_ok (fun y hy => by obtain ⟨z, hz, h1, _⟩ := expL_mem hy; rw [h1]; exact hx z hz)
  have h0 := had_tick ho
  rw [repL_some hf rfl, repL_some hf rfl]
  refine rowsE_perm (people_perm hp.symm t.name) ?_
  unfold cntL
  have ha2 : ApartL ((all.filter (fun e => !(e.person == s))).reverse) := by
    unfold ApartL
    rw [List.pairwise_reverse]
    exact (ha.filter _).imp (fun h => by rw [sameI_comm]; exact h)
  rw [seenL_apart ha, seenL_apart ha2, List.filter_reverse, List.filter_reverse]
  refine List.Perm.symm ((List.reverse_perm _).trans ?_)
  rw [List.filter_filter, List.filter_filter, List.filter_filter]
  have e : (fun a => (cntX (xsOf (hadOf [t] (expL t s x.reverse)) t.name) a && mayE a) && !(a.person == s)) = fun a => cntX (xsOf (hadOf [t] (expL t s x)) t.name) a && mayE a := by
    funext a
    rw [← cntX_perm hp.symm h0]
    cases h1 : (a.person == s)
    · simp
    · have h2 : cntX (xsOf (hadOf [t] (expL t s x)) t.name) a = false := by
        unfold cntX
        cases hg : getM (fun a b : ByteArray => a == b) (xsOf (hadOf [t] (expL t s x)) t.name) a.person with
        | none => rfl
        | some q =>
          obtain ⟨y, hy, _, h3⟩ := had_mem (getM_mem hg)
          obtain ⟨_, _, _, h4, _⟩ := expL_mem (List.mem_filter.1 hy).1
          exact absurd (h3.trans (beq_bytes.1 h1)) h4
      rw [h2]; rfl
  first
    | (rw [show all.filter _ = all.filter _ from congrArg (fun f => all.filter f) e])
    | (have e2 : (fun a => cntX (xsOf (hadOf [t] (expL t s x.reverse)) t.name) a && (mayE a && !(a.person == s))) = fun a => cntX (xsOf (hadOf [t] (expL t s x)) t.name) a && mayE a := by
        rw [← e]; funext a; rw [Bool.and_assoc]
       rw [show all.filter _ = all.filter _ from congrArg (fun f => all.filter f) e2])
end Go.Proofs.YtdkgphambjnbiaaDoor
