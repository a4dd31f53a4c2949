/-
  What is proved here: the law AuditDecodes returns true, whatever the bytes, and leaves old memory as it was. Conditions: the library's variables hold what their text lays.
-/
import Derived.Test.YtkfcbafmefdhmaaDoorAuDec5
import Derived.Test.YtkfcbafmefdhmaaDoorAuR5
import Derived.Test.YtkfcbafmefdhmaaDoorLawAdds
namespace Go.Proofs.YtkfcbafmefdhmaaDoor
open Go Go.RowKit Go.Proofs
attribute [local go_sem ↓] Go.wp_at_zero Go.wp_at_succ
def byteR : Rep UInt8 where
  size := 1
  rep _ _ c xs := xs = [byteV c]
  len h := by subst h; rfl
  one h u hu := by subst h; simp at hu; subst hu; rfl
  keep _ h := h
  mono _ h := h
theorem string_of_sl {ok : Nat → Prop} (w : World) (A : Option Addr) (n c : Nat) (bs : List UInt8) (h : Sl byteR ok w A n bs) :
    (convert 39 9 (.slice A n c)).run Tryd.prog w = .ok (.string ⟨bs.toArray⟩) w := by
  rcases Nat.eq_zero_or_pos n with rfl | hpos
  · have : bs = [] := List.eq_nil_of_length_eq_zero h.1
    subst this
    cases A <;> simp [convert, run_underlying Tryd.underlying39, run_underlying Tryd.underlying5, run_underlying Tryd.underlying9, Conv.bytesToString] <;> rfl
  · obtain ⟨b, o, rfl, hb, ho, hc⟩ := h.2 hpos
    have := run_convert_bytes_back (P := Tryd.prog) w 39 9 5 ⟨b, o, none⟩ c bs Tryd.underlying39 Tryd.underlying5 Tryd.underlying9 (fun j hj => by
      obtain ⟨xs, hr, hx⟩ := hc j bs[j] (List.getElem?_eq_getElem hj)
      have hr' : xs = [byteV bs[j]] := hr
      subst hr'
      have h9 := hx 0 _ rfl
      rw [ad_add]
      simpa [byteR, byteV] using h9)
    rw [h.1] at this
    exact this
theorem sum_in_all {l : List UInt8} {seed : Int} {es : List Ent} {n : Nat} {r : List UInt8} (h : DecAt l seed es n r) (hl : l.length ≤ 100000) : ∀ e ∈ es, e.items.length ≤ 1000 := fun e he => (h.ok hl e he).n
/-- What is decoded. -/
theorem decS_reach : ∀ (f : Nat) (l : List UInt8) (seed : Int) (es : List Ent) (n : Nat) (rest : List UInt8), DecAt l seed es n rest → rest.length < f → decD l = decS f seed es n rest → ∀ s' es' m c, decD l = ⟨some (s', es'), m, c⟩ → DecAt l s' es' m [] ∧ m ≠ 0 ∧ c = 0
  | 0, l, seed, es, n, rest, _, hf, _, _, _, _, _, _ => by omega
  | f + 1, l, seed, es, n, rest, h, hf, he, s', es', m, c, hd => by
    rw [he, decS] at hd
    by_cases h1 : n ≠ 0 ∧ rest = []
    · rw [if_pos h1] at hd
      injection hd with e1 e2 e3
      injection e1 with e1
      injection e1 with e4 e5
      subst e4 e5 e2
      have h2 := h
      rw [h1.2] at h2
      exact ⟨h2, h1.1, e3.symm⟩
    · rw [if_neg h1] at hd
      cases h2 : hasL 10 rest with
      | false => rw [h2] at hd; cases hd
      | true =>
        rw [h2, if_pos rfl] at hd
        cases h3 : lineD n seed es (aheadL 10 rest) with
        | no c' => rw [h3] at hd; cases hd
        | ok s1 es1 =>
          rw [h3] at hd
          dsimp only at hd
          have hn := h.next h2 h3
          have hb := (behind_lt h2).1
          refine decS_reach f l s1 es1 (n + 1) (behindL 10 rest) hn (by omega) ?_ s' es' m c ?_
          · rw [he, decS, if_neg h1, h2, if_pos rfl, h3]
          · rw [he, decS, if_neg h1, h2, if_pos rfl, h3]; exact hd
theorem decD_at {l : List UInt8} {s' : Int} {es' : List Ent} {m : Nat} {c : Int} (h : decD l = ⟨some (s', es'), m, c⟩) : DecAt l s' es' m [] ∧ m ≠ 0 ∧ c = 0 :=
  decS_reach (l.length + 1) l 0 [] 0 l (DecAt.start l) (by omega) rfl s' es' m c h
/-- An error has a number other than 0. -/
theorem decS_code : ∀ (f : Nat) (seed : Int) (es : List Ent) (n : Nat) (rest : List UInt8) (m : Nat) (c : Int), decS f seed es n rest = ⟨none, m, c⟩ → c ≠ 0
  | 0, _, _, n, _, m, c, h => by
    rw [decS] at h
    injection h with _ _ h
    omega
  | f + 1, seed, es, n, rest, m, c, h => by
    rw [decS] at h
    split at h
    · injection h with h; cases h
    · split at h
      · cases h3 : lineD n seed es (aheadL 10 rest) with
        | no c' =>
          rw [h3] at h
          injection h with _ _ h
          subst h
          unfold lineD at h3
          split at h3
          · unfold firstD at h3
            split at h3
            · cases h3
            · injection h3 with h3; omega
          · unfold entD at h3
            split at h3
            · split at h3
              · cases h3
              · injection h3 with h3; omega
            · injection h3 with h3; omega
        | ok s1 es1 =>
          rw [h3] at h
          exact decS_code f s1 es1 (n + 1) _ m c h
      · injection h with _ _ h
        omega
theorem decD_code {l : List UInt8} {m : Nat} {c : Int} (h : decD l = ⟨none, m, c⟩) : c ≠ 0 := decS_code _ _ _ _ _ m c h
set_option maxRecDepth 100000 in
set_option maxHeartbeats 4000000 in
theorem law_AuDecodes_a (A : Option Addr) (n c : Nat) (w : World) (hv : VarsA w) (h : 3000 < n) :
    Calls Tryd.prog 5 #[.slice A n c] w fun r w' => r = .returned (.bool true) ∧ Ext w w' := by
  have Hv := Lib.hid hv
  clear hv
  go_enter Tryd.func5, Tryd.ntmps5
  go_wp2_with (go_at_call 8; refine (law_lives _ Hv.out.pow).mono ?_; rintro _ w1 ⟨rfl, hx1⟩; have Hx1 := Lib.hid hx1; clear hx1)
  go_ret
  exact ⟨rfl, Hx1.out⟩
set_option maxRecDepth 100000 in
set_option maxHeartbeats 4000000 in
theorem law_AuDecodes (A : Option Addr) (n c : Nat) (bs : List UInt8) (ok : Nat → Prop) (w : World) (hs : Sl byteR ok w A n bs) (hv : VarsA w) :
    Calls Tryd.prog 5 #[.slice A n c] w fun r w' => r = .returned (.bool true) ∧ Ext w w' := by
  by_cases h3 : 3000 < n
  · exact law_AuDecodes_a A n c w hv h3
  obtain ⟨s, hS⟩ : ∃ s : ByteArray, s = ⟨bs.toArray⟩ := ⟨_, rfl⟩
  have hsd : s.data.toList = bs := by rw [hS]
  have hsz : s.size = n := by rw [← hs.1, ← hsd]; simp
  have HC := Lib.hid (fun (W : World) (hx : Ext w W) => show (convert 39 9 (.slice A n c)).run Tryd.prog W = .ok (.string s) W by rw [hS]; exact string_of_sl W A n c bs (hs.ext hx))
  have Hv := Lib.hid hv
  have C1 := Lib.hid (fun (W : World) (hx : Ext w W) => aud_Decode s A n c W (by omega) (Hv.out.ext hx) (fun W' hx' => HC.out W' (hx.trans hx')))
  have C2 := Lib.hid (fun (W : World) => ref_Decode s W (by omega))
  clear hv hs hS
  cases hd : decD s.data.toList with
  | mk ch m cd =>
    rw [hd] at C1 C2
    cases ch with
    | none =>
      have hcd := decD_code hd
      have hcd' : (cd != 0) = true := by simpa using hcd
      have hcd'' : (cd == 0) = false := by simpa using hcd
      clear hcd hd
      go_enter Tryd.func5, Tryd.ntmps5
      go_wp2_with (first
        | (go_at_call 8; refine (law_lives _ Hv.out.pow).mono ?_; rintro _ w1 ⟨rfl, hx1⟩; have Hx1 := Lib.hid hx1; clear hx1)
        | (go_at_call 22; refine (C1.out _ Hx1.out).mono ?_; rintro _ w2 ⟨h2, _⟩; obtain ⟨rfl, hx2⟩ := h2 rfl; have hcv := HC.out _ (Hx1.out.trans hx2); have Hx2 := Lib.hid (Hx1.out.trans hx2); clear hx2 h2)
        | (go_at_call 23; refine (C2.out _).mono ?_; rintro _ w3 ⟨h3, _⟩; obtain ⟨rfl, hx3⟩ := h3 rfl; have Hx3 := Lib.hid (Hx2.out.trans hx3); clear hx3 h3))
      go_ret
      exact ⟨rfl, Hx3.out⟩
    | some p =>
      obtain ⟨seed, es⟩ := p
      obtain ⟨hat, hm0, hcd⟩ := decD_at hd
      subst hcd
      have hbk := hat.back hm0
      have hfew := hat.few.1
      have hl : s.data.toList.length ≤ 3000 := by
        have : s.data.toList.length = s.size := by simp
        omega
      have Hall := Lib.hid (hat.ok (by omega))
      have Hit := Lib.hid (show ∀ e ∈ es, e.items.length ≤ 1000 from fun e he => (Hall.out e he).n)
      have hseed := Lib.hid (And.intro hat.seed0 hat.seed1)
      have hes : es.length ≤ 600 := by omega
      have HE := Lib.hid (show (⟨(encL seed es).toArray⟩ : ByteArray) = s by
        rw [List.append_nil] at hbk
        rw [hbk])
      clear hd hat hbk hfew hl
      go_enter Tryd.func5, Tryd.ntmps5
      go_wp2_with (first
        | (go_at_call 8; refine (law_lives _ Hv.out.pow).mono ?_; rintro _ w1 ⟨rfl, hx1⟩; have Hx1 := Lib.hid hx1; clear hx1)
        | (go_at_call 22; refine (C1.out _ Hx1.out).mono ?_; rintro _ w2 ⟨_, h2⟩; obtain ⟨b, v, rfl, hb2, hc2, hx2⟩ := h2 seed es rfl; have hcv := HC.out _ (Hx1.out.trans hx2); have Hx2 := Lib.hid (Hx1.out.trans hx2); have Hc2 := Lib.hid hc2; clear hx2 h2 hc2)
        | (go_at_call 23; refine (C2.out _).mono ?_; rintro _ w3 ⟨_, h3⟩; obtain ⟨A3, c3, rfl, hs3, hx3⟩ := h3 seed es rfl; have Hx3 := Lib.hid (Hx2.out.trans hx3); have Hs3 := Lib.hid hs3; have Hc3 := Lib.hid (Hc2.out.ext hx3); clear hx3 h3 hs3))
      clear hcv
      have hcv0 := HC.out _ (Hx3.out.drew)
      go_region_with (first
        | (go_at_call 16; refine (chain_Entries b seed es v _ (Hc3.out.ext (by repeat (first | with_reducible exact Keeps.refl _ _ | with_reducible refine Keeps.drew ?_ | with_reducible refine Keeps.drewN ?_ _ | with_reducible refine Keeps.alloc ?_ _))) (by omega) Hit.out).mono ?_; rintro _ w4 ⟨A4, c4, rfl, hown4, hx4⟩; have hy4 : Ext w3 w4 := Keeps.trans (by repeat (first | with_reducible exact Keeps.refl _ _ | with_reducible refine Keeps.drew ?_ | with_reducible refine Keeps.drewN ?_ _ | with_reducible refine Keeps.alloc ?_ _)) hx4; have hcv4 := HC.out _ (Hx3.out.trans hy4))
        | (go_at_call 15; refine (law_told A4 es.length c4 es (fun k => k < _) _ (hown4.sl (ok' := fun _ => True) (fun _ _ _ _ => trivial) (fun _ _ _ => trivial)).below (by omega) (fun _ h => h)).mono ?_; rintro _ w5 ⟨v5, rfl, hown5, hx5⟩; obtain ⟨A5, c5, rfl⟩ := hown5.form; have hy5 : Ext w3 w5 := hy4.trans hx5; have hcv5 := HC.out _ (Hx3.out.trans hy5))
        | (go_at_call 14; refine (same_yes A5 A3 es.length c5 c3 es (fun _ => True) (fun k => w2.heap.size ≤ k) _ (hown5.sl (fun _ _ _ _ => trivial) (fun _ _ _ => trivial)) (Hs3.out.ext hy5) (by omega) Hit.out).mono ?_; rintro _ w6 ⟨rfl, m6, rfl⟩; have hcv6 := HC.out _ ((Hx3.out.trans hy5).drewN m6))
        | (go_at_call 17; refine (chain_Encode b seed hseed.out.1 hseed.out.2 es v _ (Hc3.out.ext (by repeat (first | with_reducible exact hy5 | with_reducible exact Keeps.refl _ _ | with_reducible refine Keeps.drew ?_ | with_reducible refine Keeps.drewN ?_ _ | with_reducible refine Keeps.alloc ?_ _))) (by omega) Hall.out (Hv.out.pow.ext (Hx3.out.trans (by repeat (first | with_reducible exact hy5 | with_reducible exact Keeps.refl _ _ | with_reducible refine Keeps.drew ?_ | with_reducible refine Keeps.drewN ?_ _ | with_reducible refine Keeps.alloc ?_ _))))).mono ?_; rintro _ w7 ⟨A7, n7, c7, rfl, hb7, hx7⟩; have hcv7 := string_of_bts (P := Tryd.prog) w7 39 9 5 A7 c7 Tryd.underlying39 Tryd.underlying5 Tryd.underlying9 hb7; rw [HE.out] at hcv7; have hy7 : Ext w3 w7 := Keeps.trans (by repeat (first | with_reducible exact hy5 | with_reducible exact Keeps.refl _ _ | with_reducible refine Keeps.drew ?_ | with_reducible refine Keeps.drewN ?_ _ | with_reducible refine Keeps.alloc ?_ _)) hx7; have hcv8 := HC.out _ (Hx3.out.trans hy7)))
      all_goals
        have Hy := Lib.hid (Hx3.out.trans hy7)
        clear hown4 hown5 hx4 hx5 hx7 hy4 hy5 hy7 hb7 hcv7 hcv8
        go_wp2_with fail
        go_ret
        exact ⟨rfl, Hy.out⟩
end Go.Proofs.YtkfcbafmefdhmaaDoor
