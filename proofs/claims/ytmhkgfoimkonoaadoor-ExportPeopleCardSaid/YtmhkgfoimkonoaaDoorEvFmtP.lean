/-
  What is proved here: texts joined by a sign that none of them holds are parted again. No program is in sight. No condition but those told.
-/
import Derived.Test.YtmhkgfoimkonoaaDoorEvFmt
namespace Go.Proofs.YtmhkgfoimkonoaaDoor
open Go Go.RowKit

theorem parts_join (c : UInt8) : ∀ (l : List (List UInt8)), l ≠ [] → (∀ x ∈ l, freeL c x) → partsL c (Lib.join l [c]) = l
  | [], h, _ => absurd rfl h
  | [x], _, h => by
    have : Lib.join [x] [c] = x := by simp [Lib.join, List.intercalate]
    rw [this]
    exact partsL_none (h x (by simp))
  | x :: y :: r, _, h => by
    have : Lib.join (x :: y :: r) [c] = x ++ c :: Lib.join (y :: r) [c] := by simp [Lib.join, List.intercalate]
    rw [this, partsL_hit (h x (by simp)), parts_join c (y :: r) (by simp) (fun z hz => h z (by simp [List.mem_cons.1 hz]))]
theorem join_inj {c : UInt8} {l m : List (List UInt8)} (hl : l ≠ []) (hm : m ≠ []) (fl : ∀ x ∈ l, freeL c x) (fm : ∀ x ∈ m, freeL c x) (h : Lib.join l [c] = Lib.join m [c]) : l = m := by
  rw [← parts_join c l hl fl, h, parts_join c m hm fm]
theorem nameB_free {s : ByteArray} (h : nameB s = true) : freeL 32 s.data.toList := by
  intro x hx hc
  unfold nameB at h
  simp only [Bool.and_eq_true, List.all_eq_true] at h
  have := h.2 x hx
  rw [hc] at this
  exact absurd this (by decide)
/-- A row of digits' number. -/
def digV (l : List UInt8) : Nat := l.foldl (fun a c => a * 10 + (c.toNat - 48)) 0
theorem digits_val (u : Nat) : digV (Lib.decDigits u) = u ∧ ∀ x ∈ Lib.decDigits u, 48 ≤ x.toNat ∧ x.toNat ≤ 57 := by
  induction u using Nat.strongRecOn with
  | ind u ih =>
    rw [Lib.decDigits]
    by_cases h : u < 10
    · rw [dif_pos h]
      have hz : (UInt8.ofNat (48 + u)).toNat = 48 + u := by rw [UInt8.toNat_ofNat']; omega
      exact ⟨by simp only [digV, List.foldl_cons, List.foldl_nil, hz]; omega, fun x hx => by rw [List.mem_singleton.1 hx, hz]; omega⟩
    · rw [dif_neg h]
      obtain ⟨i1, i2⟩ := ih (u / 10) (by omega)
      have hz : (UInt8.ofNat (48 + u % 10)).toNat = 48 + u % 10 := by rw [UInt8.toNat_ofNat']; omega
      refine ⟨?_, fun x hx => ?_⟩
      · unfold digV at i1 ⊢
        rw [List.foldl_append, i1]
        simp only [List.foldl_cons, List.foldl_nil, hz]; omega
      · rcases List.mem_append.1 hx with hx | hx
        · exact i2 x hx
        · rw [List.mem_singleton.1 hx, hz]; omega
theorem itoaB_inj {a b : Int} (ha : 0 ≤ a) (hb : 0 ≤ b) (h : itoaB a = itoaB b) : a = b := by
  obtain ⟨u, rfl⟩ : ∃ u : Nat, a = u := ⟨a.toNat, by omega⟩
  obtain ⟨v, rfl⟩ : ∃ v : Nat, b = v := ⟨b.toNat, by omega⟩
  have h1 : Lib.itoa (u : Int) = Lib.itoa (v : Int) := by
    have := congrArg (fun s : ByteArray => s.data.toList) h
    simpa [itoaB] using this
  rw [Lib.itoa_nonneg, Lib.itoa_nonneg] at h1
  have := (digits_val u).1
  rw [h1, (digits_val v).1] at this
  omega
theorem itoaB_free {a : Int} (ha : 0 ≤ a) : freeL 32 (itoaB a).data.toList := by
  obtain ⟨u, rfl⟩ : ∃ u : Nat, a = u := ⟨a.toNat, by omega⟩
  intro x hx hc
  have hx' : x ∈ Lib.decDigits u := by rw [← Lib.itoa_nonneg]; simpa [itoaB] using hx
  have := (digits_val u).2 x hx'
  rw [hc] at this
  exact absurd this.1 (by decide)
theorem parts_all (c : UInt8) : ∀ (l : List UInt8) (x : UInt8), x ∈ l → x = c ∨ ∃ p ∈ partsL c l, x ∈ p
  | [], _, h => by cases h
  | b :: l, x, h => by
    rw [partsL]
    by_cases hb : (b == c) = true
    · rw [if_pos hb]
      rcases List.mem_cons.1 h with rfl | h
      · exact .inl (by simpa using hb)
      · rcases parts_all c l x h with h | ⟨p, hp, hx⟩
        · exact .inl h
        · exact .inr ⟨p, by simp [hp], hx⟩
    · rw [if_neg hb]
      cases hp : partsL c l with
      | nil => exact absurd hp (parts_ne c l)
      | cons q qs =>
        rcases List.mem_cons.1 h with rfl | h
        · exact .inr ⟨x :: q, by simp, by simp⟩
        · rcases parts_all c l x h with h | ⟨p, hp', hx⟩
          · exact .inl h
          · rw [hp] at hp'
            rcases List.mem_cons.1 hp' with rfl | hp'
            · exact .inr ⟨b :: p, by simp, by simp [hx]⟩
            · exact .inr ⟨p, by simp [hp'], hx⟩
theorem labelB_free {s : ByteArray} (h : labelB s = true) : freeL 32 s.data.toList := by
  obtain ⟨h1, h2, h3, h4⟩ := label_parts h
  rcases cut_cases 59 s.data.toList with hf | ⟨a, r, hf, e⟩
  · unfold semiB at h1; rw [(cut_none hf).2.2] at h1; cases h1
  · have ha : freeL 32 a := by
      have := nameB_free h2
      unfold makerB at this
      rw [e, (cut_hit hf).1] at this
      simpa [bts] using this
    intro x hx hc
    rw [e] at hx
    rcases List.mem_append.1 hx with hx | hx
    · exact ha x hx hc
    · rcases List.mem_cons.1 hx with hx | hx
      · rw [hx] at hc; exact absurd hc (by decide)
      · have hr : r ≠ [] := fun h => by rw [h] at hx; cases hx
        rw [tagsB_some hf e hr] at h4
        rcases parts_all 44 r x hx with h | ⟨p, hp, hxp⟩
        · rw [h] at hc; exact absurd hc (by decide)
        · have := nameB_free (h4 (bts p) (List.mem_map.2 ⟨p, hp, rfl⟩))
          exact this x (by simpa [bts] using hxp) hc
/-- A text that is none, or begins with no dot, is told by what stands for it. -/
theorem dotB_free {s : ByteArray} (h : freeL 32 s.data.toList) : freeL 32 (dotB s).data.toList := by
  unfold dotB
  split
  · intro x hx hc
    simp at hx
    rw [hx] at hc
    exact absurd hc (by decide)
  · exact h
theorem noneB_eq {s : ByteArray} (h : noneB s = true) : s = ⟨#[]⟩ := by
  have := noneB_size h
  apply ByteArray.ext
  exact Array.eq_empty_of_size_eq_zero this
theorem dotB_inj {s t : ByteArray} (hs : s ≠ ⟨#[46]⟩) (ht : t ≠ ⟨#[46]⟩) (h : dotB s = dotB t) : s = t := by
  unfold dotB at h
  cases h1 : noneB s <;> cases h2 : noneB t <;> rw [h1, h2] at h <;> simp only [if_true, Bool.false_eq_true, if_false] at h
  · exact h
  · exact absurd h hs
  · exact absurd h.symm ht
  · rw [noneB_eq h1, noneB_eq h2]
theorem nameB_dot {s : ByteArray} (h : nameB s = true) : s ≠ ⟨#[46]⟩ := fun e => by rw [e] at h; exact absurd h (by decide)
theorem noneB_dot {s : ByteArray} (h : noneB s = true) : s ≠ ⟨#[46]⟩ := fun e => by rw [noneB_eq h] at e; exact absurd e (by decide)
theorem labelB_dot {s : ByteArray} (h : labelB s = true) : s ≠ ⟨#[46]⟩ := fun e => by
  have h1 := (label_parts h).1
  rw [e] at h1; exact absurd h1 (by decide)
theorem itoaB_dot {a : Int} (ha : 0 ≤ a) : itoaB a ≠ ⟨#[46]⟩ := fun e => by
  obtain ⟨u, rfl⟩ : ∃ u : Nat, a = u := ⟨a.toNat, by omega⟩
  have h1 : Lib.itoa (u : Int) = [46] := by
    have := congrArg (fun s : ByteArray => s.data.toList) e
    simpa [itoaB] using this
  rw [Lib.itoa_nonneg] at h1
  have := (digits_val u).2 46 (by rw [h1]; simp)
  exact absurd this.1 (by decide)
theorem kinds_inj : ∀ i j : Fin 15, kindsB.getD i ⟨#[]⟩ = kindsB.getD j ⟨#[]⟩ → i = j := by decide +kernel
theorem kinds_free : ∀ i : Fin 15, ∀ x ∈ (kindsB.getD i ⟨#[]⟩).data.toList, x ≠ 32 := by decide +kernel
theorem kinds_dot : ∀ i : Fin 15, kindsB.getD i ⟨#[]⟩ ≠ ⟨#[46]⟩ := by decide +kernel
theorem words_free {e : Ev} (h : mayE e = true) : ∀ x ∈ ((wordsE e).map dotB).map (·.data.toList), freeL 32 x := by
  have hF := mayF h
  intro x hx
  obtain ⟨s, hs, rfl⟩ := List.mem_map.1 hx
  obtain ⟨t, ht, rfl⟩ := List.mem_map.1 hs
  refine dotB_free ?_
  have none_free : ∀ {s : ByteArray}, noneB s = true → freeL 32 s.data.toList := fun h => by rw [noneB_eq h]; intro x hx; simp at hx
  have hk : freeL 32 (kindsB.getD e.kind.toNat ⟨#[]⟩).data.toList := kinds_free ⟨e.kind.toNat, by have := hF.kind0; have := hF.kind1; omega⟩
  simp only [wordsE, List.mem_cons, List.not_mem_nil, or_false] at ht
  rcases ht with rfl | rfl | rfl | rfl | rfl | rfl | rfl | rfl
  · exact nameB_free hF.src
  · exact itoaB_free hF.num00
  · exact itoaB_free hF.tick0
  · exact hk
  · exact hF.person.elim nameB_free none_free
  · exact hF.item.elim nameB_free none_free
  · exact itoaB_free hF.value0
  · exact hF.text.elim nameB_free (fun h => h.elim none_free labelB_free)
theorem toList_inj {s t : ByteArray} (h : s.data.toList = t.data.toList) : s = t := by
  apply ByteArray.ext
  exact Array.ext' h
/-- Who is unlike has another text. -/
theorem fmt_inj {a b : Ev} (ha : mayE a = true) (hb : mayE b = true) (h : fmtE a = fmtE b) : a = b := by
  have hA := mayF ha
  have hB := mayF hb
  have h1 : Lib.join (((wordsE a).map dotB).map (·.data.toList)) [32] = Lib.join (((wordsE b).map dotB).map (·.data.toList)) [32] := by
    have := congrArg (fun s : ByteArray => s.data.toList) h
    simpa [fmtE] using this
  have h2 := join_inj (by simp [wordsE]) (by simp [wordsE]) (words_free ha) (words_free hb) h1
  simp only [wordsE, List.map_cons, List.map_nil, List.cons.injEq, and_true] at h2
  obtain ⟨e0, e1, e2, e3, e4, e5, e6, e7⟩ := h2
  have ka : a.kind.toNat < 15 := by have := hA.kind0; have := hA.kind1; omega
  have kb : b.kind.toNat < 15 := by have := hB.kind0; have := hB.kind1; omega
  have dp : ∀ {s : ByteArray}, nameB s = true ∨ noneB s = true → s ≠ ⟨#[46]⟩ := fun h => h.elim nameB_dot noneB_dot
  have dt : ∀ {s : ByteArray}, nameB s = true ∨ noneB s = true ∨ labelB s = true → s ≠ ⟨#[46]⟩ := fun h => h.elim nameB_dot (fun h => h.elim noneB_dot labelB_dot)
  have f0 := dotB_inj (nameB_dot hA.src) (nameB_dot hB.src) (toList_inj e0)
  have f1 := itoaB_inj hA.num00 hB.num00 (dotB_inj (itoaB_dot hA.num00) (itoaB_dot hB.num00) (toList_inj e1))
  have f2 := itoaB_inj hA.tick0 hB.tick0 (dotB_inj (itoaB_dot hA.tick0) (itoaB_dot hB.tick0) (toList_inj e2))
  have f3 := kinds_inj ⟨_, ka⟩ ⟨_, kb⟩ (dotB_inj (kinds_dot ⟨_, ka⟩) (kinds_dot ⟨_, kb⟩) (toList_inj e3))
  have f3' : a.kind.toNat = b.kind.toNat := congrArg Fin.val f3
  have f3'' : a.kind = b.kind := by have := hA.kind0; have := hB.kind0; omega
  have f4 := dotB_inj (dp hA.person) (dp hB.person) (toList_inj e4)
  have f5 := dotB_inj (dp hA.item) (dp hB.item) (toList_inj e5)
  have f6 := itoaB_inj hA.value0 hB.value0 (dotB_inj (itoaB_dot hA.value0) (itoaB_dot hB.value0) (toList_inj e6))
  have f7 := dotB_inj (dt hA.text) (dt hB.text) (toList_inj e7)
  obtain ⟨_, _, _, _, _, _, _, _⟩ := a
  obtain ⟨_, _, _, _, _, _, _, _⟩ := b
  simp only at f0 f1 f2 f3'' f4 f5 f6 f7
  subst f0 f1 f2 f3'' f4 f5 f6 f7
  rfl
end Go.Proofs.YtmhkgfoimkonoaaDoor
