/-
  What is proved here: an event's bytes that are cut anywhere are torn. No program is in sight. No condition but those told.
-/
import Derived.Test.YtihdeidaekheoaaDoorEvDecP
namespace Go.Proofs.YtihdeidaekheoaaDoor
open Go Go.RowKit

/-- A reading: an error stays; of fewer bytes it reads the same, or they are torn. -/
structure RF {α : Type} (f : List UInt8 → Rd → α × Rd) : Prop where
  err : ∀ bs r, r.err ≠ 0 → (f bs r).2 = r
  mono : ∀ bs r, r.pos ≤ (f bs r).2.pos
  take : ∀ bs r cut, r.err = 0 → (f bs r).2.err = 0 → ((f bs r).2.pos ≤ cut → f (bs.take cut) r = f bs r) ∧ (cut < (f bs r).2.pos → (f (bs.take cut) r).2.err = 3)
theorem rOne_ok {bs : List UInt8} {r : Rd} (h0 : r.err = 0) (h : (rOne bs r).2.err = 0) : r.pos < bs.length ∧ rOne bs r = (bs.getD r.pos 0, ⟨r.pos + 1, 0⟩) := by
  unfold rOne at *
  rw [if_neg (by simp [h0])] at *
  by_cases hl : bs.length ≤ r.pos
  · rw [if_pos hl] at h; simp at h
  · rw [if_neg hl]; exact ⟨by omega, rfl⟩
theorem rOne_RF : RF rOne where
  err bs r h := by unfold rOne; rw [if_pos h]
  mono bs r := by
    unfold rOne
    split
    · exact Nat.le_refl _
    · split
      · exact Nat.le_refl _
      · simp
  take bs r cut h0 h := by
    obtain ⟨hlt, he⟩ := rOne_ok h0 h
    rw [he]
    refine ⟨fun hc => ?_, fun hc => ?_⟩
    · simp only at hc
      unfold rOne
      rw [if_neg (by simp [h0]), if_neg (by rw [List.length_take]; omega)]
      simp only [List.getD_eq_getElem?_getD, List.getElem?_take_of_lt (show r.pos < cut by omega)]
    · simp only at hc
      unfold rOne
      rw [if_neg (by simp [h0]), if_pos (by rw [List.length_take]; omega)]
theorem rText_RF : RF rText where
  err bs r h := by
    have h1 := rOne_RF.err bs r h
    unfold rText
    simp only [h1]
    rw [if_pos h]
  mono bs r := by
    have h1 := rOne_RF.mono bs r
    unfold rText
    simp only
    split
    · exact h1
    · split
      · exact h1
      · simp only; omega
  take bs r cut h0 h := by
    by_cases h1 : (rOne bs r).2.err = 0
    · obtain ⟨hlt, he⟩ := rOne_ok h0 h1
      obtain ⟨t1, t2⟩ := rOne_RF.take bs r cut h0 h1
      unfold rText at h ⊢
      rw [he] at h t1 t2 ⊢
      simp only at h t1 t2 ⊢
      rw [if_neg (by simp)] at h ⊢
      obtain ⟨k, hk⟩ : ∃ k, k = (bs.getD r.pos 0).toNat := ⟨_, rfl⟩
      rw [← hk] at h ⊢
      by_cases hs : bs.length - (r.pos + 1) < k
      · rw [if_pos hs] at h; simp at h
      · rw [if_neg hs]
        simp only
        refine ⟨fun hc => ?_, fun hc => ?_⟩
        · rw [t1 (by omega)]
          simp only [← hk]
          rw [if_neg (by simp), if_neg (by rw [List.length_take]; omega)]
          congr 1
          rw [List.drop_take, List.take_take]
          congr 1
          omega
        · by_cases hc1 : r.pos + 1 ≤ cut
          · rw [t1 hc1]
            simp only [← hk]
            rw [if_neg (by simp), if_pos (by rw [List.length_take]; omega)]
          · have h3 := t2 (by omega)
            rw [if_pos (by rw [h3]; decide)]
            exact h3
    · exfalso
      unfold rText at h
      simp only at h
      rw [if_pos h1] at h
      exact h1 h
theorem rNum_step (bs : List UInt8) (fuel i m : Nat) (r : Rd) : rNum bs (fuel + 1) i m r = if (rOne bs r).2.err ≠ 0 then (0, (rOne bs r).2)
    else if (128 ≤ (rOne bs r).1.toNat ∧ i = 5) ∨ ((rOne bs r).1.toNat = 0 ∧ 0 < i) then (0, ⟨(rOne bs r).2.pos, 2⟩)
    else if (rOne bs r).1.toNat < 128 then (m + (rOne bs r).1.toNat * 128 ^ i, (rOne bs r).2)
    else rNum bs fuel (i + 1) (m + ((rOne bs r).1.toNat % 128) * 128 ^ i) (rOne bs r).2 := rfl
theorem rNum_mono (bs : List UInt8) : ∀ (fuel i m : Nat) (r : Rd), r.pos ≤ (rNum bs fuel i m r).2.pos
  | 0, _, _, _ => Nat.le_refl _
  | fuel + 1, i, m, r => by
    have h1 := rOne_RF.mono bs r
    rw [rNum_step]
    split
    · exact h1
    · split
      · exact h1
      · split
        · exact h1
        · exact Nat.le_trans h1 (rNum_mono bs fuel _ _ _)
theorem rNum_take (bs : List UInt8) (cut : Nat) : ∀ (fuel i m : Nat) (r : Rd), r.err = 0 → (rNum bs fuel i m r).2.err = 0 → ((rNum bs fuel i m r).2.pos ≤ cut → rNum (bs.take cut) fuel i m r = rNum bs fuel i m r) ∧ (cut < (rNum bs fuel i m r).2.pos → (rNum (bs.take cut) fuel i m r).2.err = 3)
  | 0, _, _, _, _, h => by simp [rNum] at h
  | fuel + 1, i, m, r, h0, h => by
    by_cases h1 : (rOne bs r).2.err = 0
    · obtain ⟨t1, t2⟩ := rOne_RF.take bs r cut h0 h1
      rw [rNum_step] at h ⊢
      rw [rNum_step (bs.take cut)]
      generalize rOne bs r = x at *
      rw [if_neg (by simp [h1])] at h ⊢
      by_cases hb : (128 ≤ x.1.toNat ∧ i = 5) ∨ (x.1.toNat = 0 ∧ 0 < i)
      · rw [if_pos hb] at h; simp at h
      · rw [if_neg hb] at h ⊢
        by_cases hlt : x.1.toNat < 128
        · rw [if_pos hlt] at h ⊢
          refine ⟨fun hc => ?_, fun hc => ?_⟩
          · rw [t1 hc, if_neg (by simp [h1]), if_neg hb, if_pos hlt]
          · have h3 := t2 hc
            rw [if_pos (by rw [h3]; decide)]
            exact h3
        · rw [if_neg hlt] at h ⊢
          have hm := rNum_mono bs fuel (i + 1) (m + x.1.toNat % 128 * 128 ^ i) x.2
          obtain ⟨s1, s2⟩ := rNum_take bs cut fuel (i + 1) (m + x.1.toNat % 128 * 128 ^ i) x.2 h1 h
          by_cases hc1 : x.2.pos ≤ cut
          · rw [t1 hc1, if_neg (by simp [h1]), if_neg hb, if_neg hlt]
            exact ⟨s1, s2⟩
          · refine ⟨fun hc => absurd hc (by omega), fun _ => ?_⟩
            have h3 := t2 (by omega)
            rw [if_pos (by rw [h3]; decide)]
            exact h3
    · exfalso
      rw [rNum_step, if_pos h1] at h
      exact h1 h
theorem rNum_RF : RF (fun bs r => rNum bs 6 0 0 r) where
  err bs r h := by
    have h1 := rOne_RF.err bs r h
    show (rNum bs (5 + 1) 0 0 r).2 = r
    rw [rNum_step, h1, if_pos h]
  mono bs r := rNum_mono bs 6 0 0 r
  take bs r cut h0 h := rNum_take bs cut 6 0 0 r h0 h

/-- What is read of fewer bytes: the same, or they are torn. -/
def Cut (cut : Nat) (d d' : Dec) : Prop := (d.r.pos ≤ cut ∧ d' = d) ∨ d'.r.err = 3
theorem cut_step {α : Type} {f : List UInt8 → Rd → α × Rd} (hf : RF f) (bs : List UInt8) (cut : Nat) (g : Dec → α → Dec) (hg : ∀ d x, (g d x).r = d.r) {d d' : Dec} (h0 : d.r.err = 0) (h1 : (f bs d.r).2.err = 0) (h : Cut cut d d') :
    Cut cut ⟨d.k, (g d (f bs d.r).1).e, (f bs d.r).2⟩ ⟨d'.k, (g d' (f (bs.take cut) d'.r).1).e, (f (bs.take cut) d'.r).2⟩ := by
  have _ := hg
  rcases h with ⟨hp, rfl⟩ | h3
  · obtain ⟨t1, t2⟩ := hf.take bs d'.r cut h0 h1
    by_cases hc : (f bs d'.r).2.pos ≤ cut
    · left
      rw [t1 hc]
      exact ⟨hc, rfl⟩
    · exact .inr (t2 (by omega))
  · right
    simp only
    rw [hf.err _ _ (by rw [h3]; decide)]
    exact h3
theorem err_back {α : Type} {f : List UInt8 → Rd → α × Rd} (hf : RF f) {bs : List UInt8} {r : Rd} (h : (f bs r).2.err = 0) : r.err = 0 := by
  cases hr : decide (r.err = 0)
  · have hne : r.err ≠ 0 := by simpa using hr
    rw [hf.err bs r hne] at h
    exact absurd h hne
  · simpa using hr
theorem dec_cut {e : Ev} (h : mayE e = true) {cut : Nat} (hc : cut < (encE e).length) : decE ((encE e).take cut) = (zeroE, 0, 3) := by
  have hd := dec_enc h []
  rw [List.append_nil] at hd
  obtain ⟨bs, hbs⟩ : ∃ bs, bs = encE e := ⟨_, rfl⟩
  rw [← hbs] at hd hc ⊢
  have e7 : (dec7 bs).r.err = 0 := by rw [hd]
  have p7 : (dec7 bs).r.pos = bs.length := by rw [hd]
  have e6 : (dec6 bs).r.err = 0 := err_back rText_RF (r := (dec6 bs).r) (bs := bs) e7
  have e5 : (dec5 bs).r.err = 0 := err_back rNum_RF (r := (dec5 bs).r) (bs := bs) e6
  have e4 : (dec4 bs).r.err = 0 := err_back rText_RF (r := (dec4 bs).r) (bs := bs) e5
  have e3 : (dec3 bs).r.err = 0 := err_back rText_RF (r := (dec3 bs).r) (bs := bs) e4
  have e2 : (dec2 bs).r.err = 0 := err_back rNum_RF (r := (dec2 bs).r) (bs := bs) e3
  have e1 : (dec1 bs).r.err = 0 := err_back rNum_RF (r := (dec1 bs).r) (bs := bs) e2
  have e0 : (dec0 bs).r.err = 0 := err_back rText_RF (r := (dec0 bs).r) (bs := bs) e1
  have c0 : Cut cut (dec0 bs) (dec0 (bs.take cut)) := by
    obtain ⟨t1, t2⟩ := rOne_RF.take bs ⟨0, 0⟩ cut rfl e0
    by_cases hp : (rOne bs ⟨0, 0⟩).2.pos ≤ cut
    · left
      refine ⟨hp, ?_⟩
      unfold dec0
      rw [t1 hp]
    · exact .inr (t2 (by omega))
  have c1 : Cut cut (dec1 bs) (dec1 (bs.take cut)) := cut_step rText_RF bs cut (fun d x => ⟨d.k, { d.e with src := bts x }, d.r⟩) (fun _ _ => rfl) e0 e1 c0
  have c2 : Cut cut (dec2 bs) (dec2 (bs.take cut)) := cut_step rNum_RF bs cut (fun d x => ⟨d.k, { d.e with num := (x : Int) }, d.r⟩) (fun _ _ => rfl) e1 e2 c1
  have c3 : Cut cut (dec3 bs) (dec3 (bs.take cut)) := cut_step rNum_RF bs cut (fun d x => ⟨d.k, { d.e with tick := (x : Int) }, d.r⟩) (fun _ _ => rfl) e2 e3 c2
  have c4 : Cut cut (dec4 bs) (dec4 (bs.take cut)) := cut_step rText_RF bs cut (fun d x => ⟨d.k, { d.e with person := bts x }, d.r⟩) (fun _ _ => rfl) e3 e4 c3
  have c5 : Cut cut (dec5 bs) (dec5 (bs.take cut)) := cut_step rText_RF bs cut (fun d x => ⟨d.k, { d.e with item := bts x }, d.r⟩) (fun _ _ => rfl) e4 e5 c4
  have c6 : Cut cut (dec6 bs) (dec6 (bs.take cut)) := cut_step rNum_RF bs cut (fun d x => ⟨d.k, { d.e with value := (x : Int) }, d.r⟩) (fun _ _ => rfl) e5 e6 c5
  have c7 : Cut cut (dec7 bs) (dec7 (bs.take cut)) := cut_step rText_RF bs cut (fun d x => ⟨d.k, { d.e with text := bts x }, d.r⟩) (fun _ _ => rfl) e6 e7 c6
  rcases c7 with ⟨hp, _⟩ | h3
  · omega
  · unfold decE
    rw [if_pos (by rw [h3]; decide), h3]
end Go.Proofs.YtihdeidaekheoaaDoor
