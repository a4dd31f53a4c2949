/-
  What is proved here: entries that are added to a chain, whichever they are; two chains beside each other. Conditions: where they are named.
-/
import Derived.Test.YtkfcbafmefdhmaaDoorAuQ
import Derived.Test.YtkfcbafmefdhmaaDoorLawAdds
namespace Go.Proofs.YtkfcbafmefdhmaaDoor
open Go Go.RowKit Go.Proofs
attribute [local go_sem ↓] Go.wp_at_zero Go.wp_at_succ
def e0 (e : Ent) : Ent := ⟨e.off, e.now, e.person, e.items, 0⟩
def e1 (ahead : Int) (e : Ent) : Ent := ⟨e.off, e.now, e.person, e.items, sumE ahead (e0 e)⟩
def addE (seed : Int) (es : List Ent) (e : Ent) : List Ent := if mayE (e0 e) then es ++ [e1 (aheadOf seed es) e] else es
/-- Few entries, each in range. -/
def FewE (e : Ent) : Prop := e.items.length ≤ 30 ∧ (∀ s ∈ e.items, s.size ≤ 100) ∧ e.person.size ≤ 100
structure CAt (seed : Int) (k : Nat) (es : List Ent) : Prop where
  right : Right seed es
  ok : ∀ e ∈ es, EntOk e
  short : ∀ e ∈ es, (lineL e).length ≤ 4000
  len : es.length ≤ k
theorem CAt.zero (seed : Int) : CAt seed 0 [] := ⟨rfl, fun _ h => (by cases h), fun _ h => (by cases h), Nat.le_refl _⟩
theorem itemsL_le2 (l : List ByteArray) (k : Nat) (h : ∀ s ∈ l, s.size ≤ k) : (itemsL l).length ≤ l.length * (k + 1) + 1 := by
  unfold itemsL
  split
  · simp
  · have h1 := join_len (l.map (·.data.toList)) [44] k (fun x hx => by
      obtain ⟨s, hs, rfl⟩ := List.mem_map.1 hx
      exact h s hs)
    simp only [List.length_map, List.length_cons, List.length_nil, Nat.zero_add] at h1
    omega
theorem sum_e1 (ahead : Int) (e : Ent) : (e1 ahead e).sum = sumE ahead (e1 ahead e) := by
  have h1 : (e1 ahead e).sum = sumE ahead (e0 e) := by unfold e1; rfl
  rw [h1]
  unfold sumE
  simp only [e0, e1]
theorem may_e1 (ahead : Int) (e : Ent) : mayE (e1 ahead e) = mayE (e0 e) := by
  unfold mayE
  simp only [e0, e1]
  rfl
theorem CAt.add {seed : Int} {k : Nat} {es : List Ent} (h : CAt seed k es) {e : Ent} (hf : FewE e) : CAt seed (k + 1) (addE seed es e) := by
  unfold addE
  cases hm : mayE (e0 e) with
  | false => exact ⟨h.right, h.ok, h.short, Nat.le_succ_of_le h.len⟩
  | true =>
    have hm1 : mayE (e1 (aheadOf seed es) e) = true := by rw [may_e1]; exact hm
    have hme : mayE e = true := by rw [← hm]; unfold mayE; simp only [e0]; rfl
    have hok := ent_ok (e := e) hme hf.1 hf.2.1 (aheadOf seed es)
    have hok2 : EntOk (e1 (aheadOf seed es) e) := by unfold e1 e0; exact hok
    rw [if_pos rfl]
    refine ⟨right_snoc h.right hm1 (sum_e1 _ e), fun x hx => ?_, fun x hx => ?_, by simp; have := h.len; omega⟩
    · rcases List.mem_append.1 hx with hx | hx
      · exact h.ok x hx
      · simp at hx; subst hx; exact hok2
    · rcases List.mem_append.1 hx with hx | hx
      · exact h.short x hx
      · simp at hx
        subst hx
        obtain ⟨m1, m2, m3, m4, m5, m6, m7⟩ := mayE_parts hm1
        have hp := nameB_size m5
        have hil := itemsL_le2 e.items 24 (fun s hs => nameB_size (List.all_eq_true.1 m7 s hs))
        have h30 := Nat.mul_le_mul_right 25 hf.1
        have q1 : 0 ≤ e.off := m1
        have q2 : e.off ≤ 1048576 := m2
        exact lineL_le _ _ 24 800 (itoa_len e.off q1 (by omega)) (itoa_len e.now m3 m4) hp (by show (itemsL e.items).length ≤ _; omega) (dec_len _ (by have := hok2.s1; have := hok2.s2; omega)) (by decide)
theorem CAt.sums {seed : Int} {k : Nat} {es : List Ent} (h : CAt seed k es) : ∀ e ∈ es, 0 ≤ e.sum ∧ e.sum < 18446744073709551616 := fun e he => ⟨(h.ok e he).s1, (h.ok e he).s2⟩
theorem lines_short : ∀ {es : List Ent}, (∀ e ∈ es, (lineL e).length ≤ 4000) → (linesL es).length ≤ es.length * 4001
  | [], _ => by simp [linesL]
  | e :: es, h => by
    have h1 := h e (by simp)
    have h2 := lines_short (es := es) (fun x hx => h x (by simp [hx]))
    rw [linesL_cons]; simp; rw [Nat.add_mul]; omega
theorem CAt.enc_len {seed : Int} {k : Nat} {es : List Ent} (h : CAt seed k es) (hk : k ≤ 31) (hs : seed < 18446744073709551616) : (encL seed es).length ≤ 500000 := by
  have h1 := lines_short h.short
  have h2 := headL_len seed hs
  have h3 := h.len
  have h4 : es.length * 4001 ≤ 31 * 4001 := Nat.mul_le_mul_right _ (by omega)
  unfold encL
  simp
  omega
theorem CAt.all {seed : Int} {k : Nat} {es : List Ent} (h : CAt seed k es) : ∀ e ∈ es, EntIn e := fun e he => by
  obtain ⟨_, _, _, _, q5, q6, q7⟩ := mayE_parts' (right_may h.right e he)
  have := nameB_size q5
  exact ⟨by unfold maxLen; omega, by unfold maxLen; omega, fun s hs => by have := nameB_size (List.all_eq_true.1 q7 s hs); unfold maxLen; omega⟩
/-- Add, whatever the entry is. -/
theorem chain_Add_any (ex : Nat → Prop) (b : Nat) (seed : Int) (es : List Ent) (v : Value) (e : Ent) (A : Option Addr) (c : Nat) (ok : Nat → Prop) (w : World) (hch : ChainX ex w b seed es v) (hex : ∀ k, w.heap.size ≤ k → ex k) (hes : es.length ≤ 100000)
    (hs : Sl strR ok w A e.items.length e.items) (hf : FewE e) (hpow : Pow w) :
    Calls Tryd.prog 13 #[.pointer (some ⟨b, 0, none⟩), .int .i64 e.off, .int .i64 e.now, .string e.person, .slice A e.items.length c] w fun r w' => ∃ rv v', r = .returned rv ∧
      ChainX ex w' b seed (addE seed es e) v' ∧ Keeps (fun k => k ≠ b ∧ v.ownBlock ≠ some k) w w' ∧ (v'.ownBlock = v.ownBlock ∨ ∀ g, v'.ownBlock = some g → w.heap.size ≤ g) := by
  unfold addE
  cases hm : mayE (e0 e) with
  | false =>
    refine (chain_Add_no b e.off e.now e.person e.items A c ok w hs (by have := hf.1; omega) (by have := hf.2.2; unfold maxLen; omega) (fun s h9 => by have := hf.2.1 s h9; unfold maxLen; omega) hm).mono ?_
    rintro _ w' ⟨rfl, hx⟩
    exact ⟨_, v, rfl, hch.ext hx, hx.keeps _, .inl rfl⟩
  | true =>
    refine (chain_Add_yesX ex b seed es v e.off e.now e.person e.items A c ok w hch hex hes hs hm hpow).mono ?_
    rintro _ w' ⟨A', c', v', rfl, _, _, h4, h5, h6⟩
    exact ⟨_, v', rfl, h4, h5, h6⟩
/-- A chain that stands above w leaves w alone. -/
theorem chain_ext {ex : Nat → Prop} {w wr wr' : World} {b : Nat} {seed : Int} {es : List Ent} {v : Value} (h : ChainX ex wr b seed es v) (hb : w.heap.size ≤ b) (hx : Ext w wr) (hk : Keeps (fun k => k ≠ b ∧ v.ownBlock ≠ some k) wr wr') : Ext w wr' :=
  Keeps.then_ hx hk (fun k hk9 _ => ⟨by omega, fun e => by have := (h.own.lt k e).1; omega⟩)
/-- Two chains beside each other. -/
structure Pair (seed : Int) (b : Nat) (es : List Ent) (v : Value) (b2 : Nat) (es2 : List Ent) (v2 : Value) (w : World) : Prop where
  c : ChainX (fun k => k ≠ b2 ∧ v2.ownBlock ≠ some k) w b seed es v
  d : ChainX (fun k => k ≠ b ∧ v.ownBlock ≠ some k) w b2 seed es2 v2
  ne : b ≠ b2
  r1 : v.ownBlock ≠ some b2
  r2 : v2.ownBlock ≠ some b
  r3 : ∀ g, v.ownBlock = some g → v2.ownBlock ≠ some g
theorem Pair.swap {seed : Int} {b b2 : Nat} {es es2 : List Ent} {v v2 : Value} {w : World} (h : Pair seed b es v b2 es2 v2 w) : Pair seed b2 es2 v2 b es v w :=
  ⟨h.d, h.c, h.ne.symm, h.r2, h.r1, fun g h1 h2 => h.r3 g h2 h1⟩
theorem Pair.ext {seed : Int} {b b2 : Nat} {es es2 : List Ent} {v v2 : Value} {w w' : World} (h : Pair seed b es v b2 es2 v2 w) (hx : Ext w w') : Pair seed b es v b2 es2 v2 w' :=
  ⟨h.c.ext hx, h.d.ext hx, h.ne, h.r1, h.r2, h.r3⟩
theorem Pair.room {seed : Int} {b b2 : Nat} {es es2 : List Ent} {v v2 : Value} {w : World} (h : Pair seed b es v b2 es2 v2 w) : ∀ k, w.heap.size ≤ k → k ≠ b2 ∧ v2.ownBlock ≠ some k := fun k hk =>
  ⟨by have := (Array.getElem?_eq_some_iff.1 h.d.blk).1; omega, fun e => by have := (h.d.own.lt k e).2; omega⟩
theorem Pair.add {seed : Int} {b b2 : Nat} {es es2 es' : List Ent} {v v2 v' : Value} {w w' : World} (h : Pair seed b es v b2 es2 v2 w) (hc : ChainX (fun k => k ≠ b2 ∧ v2.ownBlock ≠ some k) w' b seed es' v') (hk : Keeps (fun k => k ≠ b ∧ v.ownBlock ≠ some k) w w')
    (hr : v'.ownBlock = v.ownBlock ∨ ∀ g, v'.ownBlock = some g → w.heap.size ≤ g) : Pair seed b es' v' b2 es2 v2 w' := by
  have hb2 : b2 < w.heap.size := (Array.getElem?_eq_some_iff.1 h.d.blk).1
  have hrow : ∀ k, k < w.heap.size → v.ownBlock ≠ some k → v'.ownBlock ≠ some k := fun k hk9 h1 h2 => by
    rcases hr with e | e
    · exact h1 (by rw [← e]; exact h2)
    · have := e k h2; omega
  have hd : ChainX (fun k => k ≠ b ∧ v'.ownBlock ≠ some k) w' b2 seed es2 v2 := by
    refine ⟨hk.blk h.d.blk ⟨h.ne.symm, h.r1⟩, ?_⟩
    have h1 := h.d.own.mono (ok' := fun k => (b2 < k ∧ k ≠ b ∧ v.ownBlock ≠ some k) ∧ v'.ownBlock ≠ some k) (fun k hk9 h9 => ⟨h9, hrow k hk9 h9.2.2⟩)
    refine (h1.keep (hk.mono (fun k _ h9 => h9.1.1.2)) (fun g hg => hk.block g (h1.lt g hg).2 ⟨fun e => h.r2 (by rw [← e]; exact hg), fun e => h.r3 g e hg⟩)).mono (fun k _ h9 => ⟨h9.1.1, h9.1.2.1, h9.2⟩)
  refine ⟨hc, hd, h.ne, hrow b2 hb2 h.r1, h.r2, fun g h1 h2 => ?_⟩
  have hg := (h.d.own.lt g h2).2
  exact hrow g hg (fun e => h.r3 g e h2) h1
end Go.Proofs.YtkfcbafmefdhmaaDoor
