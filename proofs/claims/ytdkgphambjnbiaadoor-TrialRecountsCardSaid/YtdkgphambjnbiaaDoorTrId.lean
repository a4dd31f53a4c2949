/-
  What is defined and proved here: identities of events as keys of the map by which a report knows what it has seen; the first of each identity among the events that may be; who of them counts; rows of a report with events. No condition but those told.
-/
import Derived.Test.YtdkgphambjnbiaaDoorIdK
import Derived.Test.YtdkgphambjnbiaaDoorEvMay
import Derived.Test.YtdkgphambjnbiaaDoorTrRows
namespace Go.Proofs.YtdkgphambjnbiaaDoor
open Go Go.RowKit Go.Proofs
def idF0 (p : String) : Field := { name := "source", type := 9, offset := 0, embedded := false, tag := "", pkgPath := p, byteOffset := 0 }
def idF1 (p : String) : Field := { name := "number", type := 3, offset := 1, embedded := false, tag := "", pkgPath := p, byteOffset := 16 }
theorem idT_trial : IdT Tryd.prog 86 (idF0 "cicerone/trial") (idF1 "cicerone/trial") := ⟨Tryd.underlying86, by decide, by decide, Tryd.underlying9, Tryd.underlying3, rfl, rfl, by kernel_rfl⟩
def idE (e : Ev) : Idt := (e.src, e.num)
def sameI (a b : Ev) : Bool := (a.src == b.src) && decide (a.num = b.num)
theorem sameI_iff {a b : Ev} : sameI a b = true ↔ a.src = b.src ∧ a.num = b.num := by
  unfold sameI; rw [Bool.and_eq_true, beq_bytes, decide_eq_true_eq]
theorem idE_eqb (e x : Ev) : ((idE e).1 == (idE x).1 && (idE e).2 == (idE x).2) = sameI x e := by
  rw [Bool.eq_iff_iff, sameI_iff, id_eq_iff]
  unfold idE
  simp only [Prod.mk.injEq]
  exact ⟨fun h => ⟨h.1.symm, h.2.symm⟩, fun h => ⟨h.1.symm, h.2.symm⟩⟩
def hadV (b : Bool) : Value := .bool b
def hadL (es : List Ev) : List (Idt × Bool) := es.map fun e => (idE e, true)
theorem zero_bool (w : World) : (zeroValue 4).run Tryd.prog w = .ok (.bool false) w := by kernel_rfl
theorem hadL_any (es : List Ev) (e : Ev) : (hadL es).any (fun p => (fun a b : Idt => a.1 == b.1 && a.2 == b.2) (idE e) p.1) = es.any (fun x => sameI x e) := by
  unfold hadL
  rw [List.any_map]
  congr 1
  funext x; exact idE_eqb e x
theorem hadL_get (es : List Ev) (e : Ev) : getM (fun a b : Idt => a.1 == b.1 && a.2 == b.2) (hadL es) (idE e) = if es.any (fun x => sameI x e) then some true else none := by
  rw [← hadL_any]
  unfold getM
  cases h : (hadL es).any (fun p => (fun a b : Idt => a.1 == b.1 && a.2 == b.2) (idE e) p.1)
  · have : (hadL es).find? (fun p => (fun a b : Idt => a.1 == b.1 && a.2 == b.2) (idE e) p.1) = none := by
      rw [List.find?_eq_none]
      intro x hx
      have := List.any_eq_false.1 h x hx
      simpa using this
    rw [this]; rfl
  · cases hf : (hadL es).find? (fun p => (fun a b : Idt => a.1 == b.1 && a.2 == b.2) (idE e) p.1) with
    | none =>
      obtain ⟨x, hx, hp⟩ := List.any_eq_true.1 h
      exact absurd hp (List.find?_eq_none.1 hf x hx)
    | some p =>
      have hm := List.mem_of_find?_eq_some hf
      obtain ⟨x, _, rfl⟩ := List.mem_map.1 hm
      rfl
theorem look_h {W : World} {m : Nat} {es : List Ev} (h : Mp (idK idT_trial) hadV W m (hadL es)) (e : Ev) {b : Bool} (hb : es.any (fun x => sameI x e) = b) :
    (Instr.lookup 84 (.map (some m)) (.agg #[.string e.src, .int .i64 e.num]) false).run Tryd.prog W = .ok (.bool b) W := by
  have := h.look Tryd.underlying84 (zero_bool W) (idE e) false
  rw [show getM ((idK idT_trial)).eq (hadL es) (idE e) = _ from hadL_get es e, hb] at this
  rw [show (Value.agg #[.string e.src, .int .i64 e.num]) = ((idK idT_trial)).of (idE e) from rfl, this]
  cases b <;> rfl
theorem put_h {W : World} {m : Nat} {es : List Ev} (h : Mp (idK idT_trial) hadV W m (hadL es)) (e : Ev) (hn : es.any (fun x => sameI x e) = false) :
    ∃ w', (Instr.mapUpdate 84 (.map (some m)) (.agg #[.string e.src, .int .i64 e.num]) (.bool true)).run Tryd.prog W = .ok () w' ∧ Mp (idK idT_trial) hadV w' m (hadL (es ++ [e])) ∧ Keeps (fun i => i ≠ m) W w' := by
  obtain ⟨w', h1, h2, h3, _⟩ := h.put Tryd.underlying84 (idE e) true
  refine ⟨w', h1, ?_, h3⟩
  have hp : putM ((idK idT_trial)).eq (hadL es) (idE e) true = hadL (es ++ [e]) := by
    unfold putM
    have ha : (hadL es).any (fun p => ((idK idT_trial)).eq (idE e) p.1) = false := (hadL_any es e).trans hn
    rw [ha]
    simp [hadL]
  rw [← hp]; exact h2

/-! ### who counts -/
def seenStep (es : List Ev) (e : Ev) : List Ev := if mayE e && !(es.any (fun x => sameI x e)) then es ++ [e] else es
/-- The first of each identity among the events that may be. -/
def seenL (l : List Ev) : List Ev := l.foldl seenStep []
theorem seenL_take {l : List Ev} {k : Nat} {e : Ev} (h : l[k]? = some e) : seenL (l.take (k + 1)) = seenStep (seenL (l.take k)) e := by
  unfold seenL; rw [List.take_add_one, h, List.foldl_append]; rfl
theorem seenL_may (l : List Ev) : ∀ e ∈ seenL l, mayE e = true := by
  have : ∀ (l es : List Ev), (∀ e ∈ es, mayE e = true) → ∀ e ∈ l.foldl seenStep es, mayE e = true := by
    intro l
    induction l with
    | nil => intro es h; exact h
    | cons a l ih =>
      intro es h
      refine ih _ ?_
      unfold seenStep
      split
      · rename_i h9
        intro e he
        rcases List.mem_append.1 he with he | he
        · exact h e he
        · simp at he; subst he
          rw [Bool.and_eq_true] at h9; exact h9.1
      · exact h
  exact this l [] (fun e he => by cases he)
theorem seenL_len (l : List Ev) : (seenL l).length ≤ l.length := by
  have : ∀ (l es : List Ev), (l.foldl seenStep es).length ≤ es.length + l.length := by
    intro l
    induction l with
    | nil => intro es; simp
    | cons a l ih =>
      intro es
      have h1 := ih (seenStep es a)
      have h2 : (seenStep es a).length ≤ es.length + 1 := by
        unfold seenStep; split <;> simp
      simp only [List.foldl_cons, List.length_cons]; omega
  have := this l []
  simpa [seenL] using this
/-- Whether an event counts: whose person was exposed by then. -/
def cntX (xn : List (ByteArray × Int)) (e : Ev) : Bool := match getM (fun a b : ByteArray => a == b) xn e.person with | some a => decide (a ≤ e.tick) | none => false
def cntL (xn : List (ByteArray × Int)) (l : List Ev) : List Ev := (seenL l).filter (cntX xn)
theorem cntL_stay {xn : List (ByteArray × Int)} {l : List Ev} {k : Nat} {e : Ev} (h : l[k]? = some e) (hn : mayE e = false ∨ (seenL (l.take k)).any (fun x => sameI x e) = true) : seenL (l.take (k + 1)) = seenL (l.take k) ∧ cntL xn (l.take (k + 1)) = cntL xn (l.take k) := by
  have : seenL (l.take (k + 1)) = seenL (l.take k) := by
    rw [seenL_take h]; unfold seenStep
    rcases hn with h9 | h9 <;> rw [h9] <;> simp
  exact ⟨this, by unfold cntL; rw [this]⟩
theorem cntL_seen {l : List Ev} {k : Nat} {e : Ev} (h : l[k]? = some e) (h1 : mayE e = true) (h2 : (seenL (l.take k)).any (fun x => sameI x e) = false) : seenL (l.take (k + 1)) = seenL (l.take k) ++ [e] := by
  rw [seenL_take h]; unfold seenStep; rw [h1, h2]; rfl
theorem cntL_no {xn : List (ByteArray × Int)} {l : List Ev} {k : Nat} {e : Ev} (h : l[k]? = some e) (h1 : mayE e = true) (h2 : (seenL (l.take k)).any (fun x => sameI x e) = false) (h3 : cntX xn e = false) : cntL xn (l.take (k + 1)) = cntL xn (l.take k) := by
  unfold cntL; rw [cntL_seen h h1 h2, List.filter_append]; simp [h3]
theorem cntL_yes {xn : List (ByteArray × Int)} {l : List Ev} {k : Nat} {e : Ev} (h : l[k]? = some e) (h1 : mayE e = true) (h2 : (seenL (l.take k)).any (fun x => sameI x e) = false) (h3 : cntX xn e = true) : cntL xn (l.take (k + 1)) = cntL xn (l.take k) ++ [e] := by
  unfold cntL; rw [cntL_seen h h1 h2, List.filter_append]; simp [h3]
theorem cntL_may (xn : List (ByteArray × Int)) (l : List Ev) : ∀ e ∈ cntL xn l, mayE e = true := fun e he => seenL_may l e (List.mem_filter.1 he).1
theorem cntL_len (xn : List (ByteArray × Int)) (l : List Ev) : (cntL xn l).length ≤ l.length := Nat.le_trans (List.length_filter_le _ _) (seenL_len l)
theorem worth_in {e : Ev} (h : mayE e = true) : 0 ≤ worthE e ∧ worthE e ≤ 5 := by
  unfold worthE
  by_cases h1 : e.kind = 1
  · rw [if_pos h1]; omega
  by_cases h2 : e.kind = 2
  · rw [if_neg h1, if_pos h2]; omega
  by_cases h3 : e.kind = 3
  · rw [if_neg h1, if_neg h2, if_pos h3]; omega
  by_cases h4 : e.kind = 4
  · rw [if_neg h1, if_neg h2, if_neg h3, if_pos h4]
    unfold mayE at h
    rw [Bool.and_eq_true, tail_b h4] at h
    simp only [Bool.and_eq_true, decide_eq_true_eq] at h
    exact ⟨by omega, by omega⟩
  · rw [if_neg h1, if_neg h2, if_neg h3, if_neg h4]; omega

/-! ### rows with events -/
def bghtN (t : Tr) (cs : List Ev) (j : Nat) : Nat := cs.countP (fun e => armNo t e.person == (j : Int) && e.kind == 3)
def wrthN (t : Tr) (j : Nat) : List Ev → Int
  | [] => 0
  | e :: cs => (if armNo t e.person = (j : Int) then worthE e else 0) + wrthN t j cs
theorem wrthN_app (t : Tr) (j : Nat) (e : Ev) : ∀ cs, wrthN t j (cs ++ [e]) = wrthN t j cs + (if armNo t e.person = (j : Int) then worthE e else 0)
  | [] => by simp [wrthN]
  | a :: cs => by simp only [List.cons_append, wrthN, wrthN_app t j e cs]; omega
theorem wrthN_in (t : Tr) (j : Nat) : ∀ cs, (∀ e ∈ cs, mayE e = true) → 0 ≤ wrthN t j cs ∧ wrthN t j cs ≤ 5 * (cs.length : Int)
  | [], _ => by simp [wrthN]
  | a :: cs, h => by
    have h1 := wrthN_in t j cs (fun e he => h e (by simp [he]))
    have h2 := worth_in (h a (by simp))
    simp only [wrthN, List.length_cons]
    split <;> omega
theorem bghtN_len (t : Tr) (cs : List Ev) (j : Nat) : bghtN t cs j ≤ cs.length := List.countP_le_length
def rowsE (t : Tr) (ds : List ByteArray) (cs : List Ev) : List Rw := t.arms.mapIdx (fun j a => ⟨a, (ds.countP (fun d => armNo t d == (j : Int)) : Nat), (bghtN t cs j : Nat), wrthN t j cs⟩)
theorem rowsE_nil (t : Tr) (ds : List ByteArray) : rowsE t ds [] = rowsP t ds := rfl
theorem rowsE_at {t : Tr} {ds : List ByteArray} {cs : List Ev} {j : Nat} {a : ByteArray} (h : t.arms[j]? = some a) : (rowsE t ds cs)[j]? = some ⟨a, (ds.countP (fun d => armNo t d == (j : Int)) : Nat), (bghtN t cs j : Nat), wrthN t j cs⟩ := by
  unfold rowsE; rw [List.getElem?_mapIdx, h]; rfl
theorem rowsE_step {t : Tr} {ds : List ByteArray} {cs : List Ev} {e : Ev} {j : Nat} {a : ByteArray} (hj : armNo t e.person = j) (h : t.arms[j]? = some a) :
    (rowsE t ds cs).set j ⟨a, (ds.countP (fun d => armNo t d == (j : Int)) : Nat), (bghtN t cs j : Nat) + (if e.kind = 3 then 1 else 0), wrthN t j cs + worthE e⟩ = rowsE t ds (cs ++ [e]) := by
  have hjl : j < t.arms.length := (List.getElem?_eq_some_iff.1 h).1
  apply List.ext_getElem?
  intro i
  unfold rowsE
  rw [List.getElem?_set, List.getElem?_mapIdx, List.getElem?_mapIdx]
  by_cases hij : j = i
  · subst hij
    rw [if_pos rfl, if_pos (by simpa using hjl), h]
    simp only [Option.map_some, wrthN_app, hj, if_pos]
    congr 2
    unfold bghtN
    rw [List.countP_append]
    by_cases h3 : e.kind = 3 <;> simp [hj, h3]
  · rw [if_neg hij]
    cases hi : t.arms[i]? with
    | none => rfl
    | some b =>
      have : ¬ ((j : Int) = (i : Int)) := by omega
      simp only [Option.map_some, wrthN_app, hj, if_neg this, Int.add_zero]
      congr 2
      unfold bghtN
      rw [List.countP_append]
      simp [hj, this]
end Go.Proofs.YtdkgphambjnbiaaDoor
