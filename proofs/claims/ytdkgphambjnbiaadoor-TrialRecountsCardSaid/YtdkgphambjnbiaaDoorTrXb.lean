/-
  What is proved here: whether the program exposes is just the document's okX; what the book holds then. Conditions: at most a thousand trials, short texts.
  what holds of those whom the document has noted as exposed. No program is in sight. No condition but those told.
-/
import Derived.Test.YtdkgphambjnbiaaDoorTrXe
import Derived.Test.YtdkgphambjnbiaaDoorTrExp3
namespace Go.Proofs.YtdkgphambjnbiaaDoor
open Go Go.RowKit Go.Proofs
theorem bk_Expose (b m lim : Nat) (v : Value) (outer : List (ByteArray × Nat)) (ts : List Tr) (xs : ByteArray → List (ByteArray × Int)) (e : Xp) (w : World) (h : BookX w b m lim v outer ts xs) (hn : ts.length ≤ 1000) (hwf : ∀ t ∈ ts, TrWf t) (hp : e.person.size < maxLen) :
    Calls Tryd.prog 24 #[.pointer (some ⟨b, 0, none⟩), .string e.trial, .string e.person, .int .i64 e.tick] w fun r w' => r = .returned (.bool (okX ts e)) ∧ ∃ outer', BookX w' b m lim v outer' ts (if okX ts e then xsStep xs e else xs) ∧ Keeps (fun k => k ≠ m ∧ ∀ p ∈ outer, p.2 ≠ k) w w' ∧ ∀ p ∈ outer', p ∈ outer ∨ w.heap.size ≤ p.2 := by
  have hp1 : e.person.size ≤ maxLen := Nat.le_of_lt hp
  cases hf : ts.findIdx? (fun o => o.name == e.trial) with
  | none =>
    have ho : okX ts e = false := by unfold okX; rw [hf]
    rw [ho]
    exact (exp_none b m lim v outer ts xs e.trial e.person e.tick w h hn hf).mono fun _ _ ⟨h1, h2⟩ => ⟨h1, outer, h.ext h2, Ext.keeps h2 _, fun p hp => .inl hp⟩
  | some i =>
    obtain ⟨hil, _⟩ := List.findIdx?_eq_some_iff_getElem.1 hf
    have ht := List.getElem?_eq_getElem hil
    have hok : okX ts e = expT ts[i] e.person e.tick := by unfold okX; rw [hf]; simp only; rw [ht]
    have hw := hwf _ (List.mem_of_getElem? ht)
    cases he : expT ts[i] e.person e.tick
    · rw [hok, he]
      exact (exp_no b m lim v outer ts xs e.trial e.person e.tick w h hn i _ hf ht hw hp1 hp he).mono fun _ _ ⟨h1, h2⟩ => ⟨h1, outer, h.ext h2, Ext.keeps h2 _, fun p hp => .inl hp⟩
    · rw [hok, he]
      exact (exp_yes b m lim v outer ts xs e.trial e.person e.tick w h hn i _ hf ht hw hp1 hp he).mono fun _ _ ⟨h1, o', h2, h3, h4⟩ => ⟨h1, o', h2, h3, h4⟩
/-- Whom the document has noted, of the first ones. -/
def hadOf (l : List Tr) (x : List Xp) : List Xp := x.filter (okX l)
theorem had_take {l : List Tr} {x : List Xp} {k : Nat} {e : Xp} (h : x[k]? = some e) : hadOf l (x.take (k + 1)) = if okX l e then hadOf l (x.take k) ++ [e] else hadOf l (x.take k) := by
  unfold hadOf
  rw [List.take_add_one, h, List.filter_append]
  cases ho : okX l e <;> simp [ho]
theorem xs_take {l : List Tr} {x : List Xp} {k : Nat} {e : Xp} (h : x[k]? = some e) : xsOf (hadOf l (x.take (k + 1))) = if okX l e then xsStep (xsOf (hadOf l (x.take k))) e else xsOf (hadOf l (x.take k)) := by
  rw [had_take h]
  split
  · rw [xsOf_snoc]
  · rfl
end Go.Proofs.YtdkgphambjnbiaaDoor
namespace Go.Proofs.YtdkgphambjnbiaaDoor
open Go Go.RowKit Go.Proofs
structure HadOk (l : List Tr) (had : List Xp) : Prop where
  ok : ∀ y ∈ had, okX l y = true
  short : ∀ y ∈ had, y.person.size < maxLen
theorem okX_parts {l : List Tr} {y : Xp} (h : okX l y = true) : ∃ (i : Nat) (t : Tr), l.findIdx? (fun o => o.name == y.trial) = some i ∧ l[i]? = some t ∧ expT t y.person y.tick = true := by
  unfold okX at h
  cases hf : l.findIdx? (fun o => o.name == y.trial) with
  | none => rw [hf] at h; cases h
  | some i =>
    rw [hf] at h
    cases ht : l[i]? with
    | none => simp only at h; rw [ht] at h; cases h
    | some t => simp only at h; rw [ht] at h; exact ⟨i, t, rfl, ht, h⟩
theorem exp_parts {t : Tr} {p : ByteArray} {a : Int} (h : expT t p a = true) : nameB p = true ∧ 0 ≤ a ∧ inT t p = true := by
  simp only [expT, Bool.and_eq_true, decide_eq_true_eq] at h
  exact ⟨h.1.1.1, h.1.1.2, h.2⟩
theorem had_tick {l : List Tr} {had : List Xp} (h : HadOk l had) : ∀ y ∈ had, 0 ≤ y.tick := fun y hy => by
  obtain ⟨_, _, _, _, h9⟩ := okX_parts (h.ok y hy)
  exact (exp_parts h9).2.1
theorem had_in {l : List Tr} {had : List Xp} (h : HadOk l had) {name : ByteArray} {i : Nat} {t : Tr} (hi : l.findIdx? (fun o => o.name == name) = some i) (ht : l[i]? = some t) : ∀ y ∈ had, y.trial = name → inT t y.person = true := fun y hy hn => by
  obtain ⟨i', t', h1, h2, h9⟩ := okX_parts (h.ok y hy)
  rw [hn, hi] at h1
  obtain rfl := Option.some.inj h1
  rw [ht] at h2
  obtain rfl := Option.some.inj h2
  exact (exp_parts h9).2.2
theorem had_mem {had : List Xp} {name : ByteArray} {p : ByteArray × Int} (hp : p ∈ xsOf had name) : ∃ y ∈ had, y.trial = name ∧ y.person = p.1 := by
  have h1 : p.1 ∈ peopleX (had.take had.length) name := by rw [List.take_of_length_le (Nat.le_refl _)]; exact List.mem_map_of_mem (f := (·.1)) hp
  obtain ⟨y, hy, h2⟩ := (peopleX_mem had.length had name p.1).1 h1
  exact ⟨y, List.mem_of_mem_take hy, h2⟩
theorem had_empty {l : List Tr} {had : List Xp} (h : HadOk l had) (name : ByteArray) : getM (fun a b : ByteArray => a == b) (xsOf had name) ⟨#[]⟩ = none := by
  cases hg : getM (fun a b : ByteArray => a == b) (xsOf had name) ⟨#[]⟩ with
  | none => rfl
  | some s =>
    obtain ⟨y, hy, _, h2⟩ := had_mem (getM_mem hg)
    obtain ⟨_, _, _, _, h9⟩ := okX_parts (h.ok y hy)
    have h3 := (exp_parts h9).1
    rw [show y.person = ⟨#[]⟩ from h2] at h3
    exact absurd h3 (by decide +kernel)
theorem had_ex {l : List Tr} {had : List Xp} (h : HadOk l had) {name : ByteArray} {i : Nat} {t : Tr} (hi : l.findIdx? (fun o => o.name == name) = some i) (ht : l[i]? = some t) : ∀ p ∈ xsOf had name, inT t p.1 = true ∧ p.1.size < maxLen := fun p hp => by
  obtain ⟨y, hy, h1, h2⟩ := had_mem hp
  rw [← h2]
  exact ⟨had_in h hi ht y hy h1, h.short y hy⟩
theorem hadOf_ok {l : List Tr} {x : List Xp} (h : ∀ y ∈ x, y.person.size < maxLen) : HadOk l (hadOf l x) :=
  ⟨fun _ hy => (List.mem_filter.1 hy).2, fun y hy => h y (List.mem_filter.1 hy).1⟩
end Go.Proofs.YtdkgphambjnbiaaDoor
