/-
  What is proved here: the document's Encode returns the bytes encL. Conditions: at most a thousand entries, in range.
-/
import Derived.Test.YtkfcbafmefdhmaaDoorDigits
import Derived.Test.YtkfcbafmefdhmaaDoorChain5
import Derived.Test.YtkfcbafmefdhmaaDoorQuiet
namespace Go.Proofs.YtkfcbafmefdhmaaDoor
open Go Go.RowKit Go.Proofs
attribute [local go_sem ↓] Go.wp_at_zero Go.wp_at_succ

theorem itemsL_zero (l : List ByteArray) : (⟨(itemsL (l.take 0)).toArray⟩ : ByteArray) = ⟨#[46]⟩ := rfl
theorem join_snoc (xs : List (List UInt8)) (y sep : List UInt8) (h : xs ≠ []) : Lib.join (xs ++ [y]) sep = Lib.join xs sep ++ sep ++ y := by
  unfold Lib.join List.intercalate
  induction xs with
  | nil => exact absurd rfl h
  | cons a r ih =>
    cases r with
    | nil => simp
    | cons b r => 
      have := ih (by simp)
      simp only [List.cons_append, List.intersperse, List.flatten_cons] at this ⊢
      rw [this]; simp
theorem itemsL_one (l : List ByteArray) (s : ByteArray) (h : l[0]? = some s) : (⟨(itemsL (l.take (0 + 1))).toArray⟩ : ByteArray) = s := by
  match l, h with
  | a :: r, h =>
    simp only [List.getElem?_cons_zero, Option.some.injEq] at h
    subst h
    simp [itemsL, Lib.join]
theorem itemsL_step (l : List ByteArray) (k : Nat) (s : ByteArray) (hk : 0 < k) (h : l[k]? = some s) : (⟨(itemsL (l.take (k + 1))).toArray⟩ : ByteArray) = ⟨(itemsL (l.take k)).toArray⟩ ++ ⟨#[44]⟩ ++ s := by
  have hkl : k < l.length := (List.getElem?_eq_some_iff.1 h).1
  have e1 : (l.take (k + 1)).length ≠ 0 := by rw [List.length_take]; omega
  have e2 : (l.take k).length ≠ 0 := by rw [List.length_take]; omega
  have e3 : (l.take k).map (fun s : ByteArray => s.data.toList) ≠ [] := fun e => e2 (by simpa using congrArg List.length e)
  unfold itemsL
  rw [if_neg e1, if_neg e2, List.take_add_one, h, List.map_append, Option.toList_some, List.map_singleton, join_snoc _ _ _ e3]
  apply ByteArray.ext
  simp
theorem enc_step (pre : List UInt8) (e : Ent) : (⟨pre.toArray⟩ ++ itoaB e.off ++ ⟨#[32]⟩ ++ itoaB e.now ++ ⟨#[32]⟩ ++ e.person ++ ⟨#[32]⟩ ++ ⟨(itemsL e.items).toArray⟩ ++ ⟨#[32]⟩ ++ ⟨(Lib.decDigits e.sum.toNat).toArray⟩ ++ ⟨#[10]⟩ : ByteArray) = ⟨(pre ++ lineL e ++ [10]).toArray⟩ := by
  apply ByteArray.ext
  simp [lineL, Lib.join, itoaB, List.intercalate, List.intersperse]

/-- How long what is told of the items is, whole and in part. -/
theorem itemsL_le (l : List ByteArray) (h : ∀ s ∈ l, s.size ≤ 1000) : (itemsL l).length ≤ l.length * 1001 + 1 := by
  unfold itemsL
  split
  · simp
  · have := join_len (l.map (fun s : ByteArray => s.data.toList)) [44] 1000 (fun x hx => by
      obtain ⟨s, hs, rfl⟩ := List.mem_map.1 hx
      exact h s hs)
    rw [List.length_map, show 1000 + ([44] : List UInt8).length = 1001 from rfl] at this
    exact Nat.le_succ_of_le this

set_option maxRecDepth 100000 in
set_option maxHeartbeats 4000000 in
theorem ref_Encode (seed : Int) (h0 : 0 ≤ seed) (h1 : seed < 18446744073709551616) (A : Option Addr) (n c : Nat) (es : List Ent) (ok : Nat → Prop) (w : World) (hs : Sl entR ok w A n es) (hn : n ≤ 1000) (hok : ∀ e ∈ es, EntOk e) :
    Calls Tryd.prog 18 #[.int .u64 seed, .slice A n c] w fun e w' => e = .returned (.string ⟨(encL seed es).toArray⟩) ∧ Ext w w' := by
  have Hs := Lib.hid hs
  have Hok := Lib.hid hok
  have Hl := Lib.hid hs.1
  have hhl := headL_len seed h1
  have hdl := dec_len seed.toNat (by omega)
  have Hhead := Lib.hid (show (⟨#[97, 117, 100, 105, 116, 32]⟩ ++ ⟨(Lib.decDigits seed.toNat).toArray⟩ ++ ⟨#[10]⟩ : ByteArray) = ⟨(headL seed ++ [10] ++ linesL (es.take 0)).toArray⟩ by
    apply ByteArray.ext; simp [headL, linesL])
  clear hs hok
  go_enter Tryd.func18, Tryd.ntmps18
  go_wp2_with (go_at_call 34; refine (ref_Big seed h0 h1 _).mono ?_; rintro _ w1 ⟨rfl, hx1⟩; have Hx1 := Lib.hid hx1; clear hx1)
  go_loopw [5, 6] (fun s i wr => ∃ (k : Nat), k ≤ n ∧ i = .int .i64 k ∧ s = .string ⟨(headL seed ++ [10] ++ linesL (es.take k)).toArray⟩ ∧ Ext w wr) (fun _ i _ => n - (intOf i).toNat)
  case atStart => exact ⟨0, Nat.zero_le _, rfl, by rw [← Hhead.out], Hx1.out⟩
  case round =>
    obtain ⟨k, hk, rfl, rfl, hx⟩ := hrel
    have Hx := Lib.hid hx
    have hpl : (headL seed ++ [10] ++ linesL (es.take k)).length ≤ 200000000 := by
      have h2 := linesL_len (es.take k) (fun x hx => Hok.out x (List.mem_of_mem_take hx))
      have h3 : (es.take k).length ≤ 1000 := by simp; omega
      have h4 := Nat.mul_le_mul_right 100001 h3
      simp only [List.length_append, List.length_cons, List.length_nil]
      omega
    by_cases hlt : k < n
    · obtain ⟨b, o, e, A', c', rfl, hb, ho, he, hc', hs', d0, d1, d2, d3, d4⟩ := Hs.out.ent hlt
      have hek := Hok.out e (List.mem_of_getElem? he)
      have He := Lib.hid he
      have Hek := Lib.hid hek
      have Hs' := Lib.hid hs'
      have i0 : (0 : Int) ≤ (k : Int) := by omega
      have i1 : (k : Int) < (n : Int) := by omega
      have ho := Old.of_ext hx
      have hin := hek.n
      clear he hek hs' hx
      go_wp2_with fail
      go_loopw [7, 8] (fun s i wr' => ∃ (j : Nat), j ≤ e.items.length ∧ i = .int .i64 j ∧ s = .string ⟨(itemsL (e.items.take j)).toArray⟩ ∧ wr' = wr) (fun _ i _ => e.items.length - (intOf i).toNat)
      case atStart => exact ⟨0, Nat.zero_le _, rfl, rfl, rfl⟩
      case round =>
        obtain ⟨j, hj, rfl, rfl, rfl⟩ := hrel
        by_cases hjl : j < e.items.length
        · obtain ⟨b', o', s, rfl, hb', ho', hsj, dj⟩ := Hs'.out.str hjl
          have j0 : (0 : Int) ≤ (j : Int) := by omega
          have j1 : (j : Int) < (e.items.length : Int) := by omega
          have hsz := Hek.out.i s (List.mem_of_getElem? hsj)
          have Hsj := Lib.hid hsj
          have hil : (itemsL (e.items.take j)).length ≤ 2000000 := by
            have := itemsL_le (e.items.take j) (fun x hx => Hek.out.i x (List.mem_of_mem_take hx))
            have h3 : (e.items.take j).length ≤ 1000 := by rw [List.length_take]; have := Hek.out.n; omega
            have h4 := Nat.mul_le_mul_right 1001 h3
            omega
          clear hsj
          by_cases hj0 : j = 0
          · subst hj0
            have dj' : w.cell? ⟨b', o', none⟩ = some (.string s) := dj
            go_wp2_with fail
            go_roundw
            case rel => exact ⟨1, hjl, by go_num, by rw [itemsL_one _ _ Hsj.out], trivial⟩
            case measure => simp [intOf]; omega
          · have jz : ((j : Int) == 0) = false := by simpa using hj0
            go_wp2_with fail
            go_roundw
            case rel => exact ⟨j + 1, hjl, by go_num, by rw [itemsL_step _ _ _ (by omega) Hsj.out], trivial⟩
            case measure => simp [intOf]; omega
        · obtain rfl : j = e.items.length := by omega
          go_wp2_with fail
          have hil := itemsL_le e.items Hek.out.i
          have hil2 := Nat.mul_le_mul_right 1001 Hek.out.n
          have hof : (itoaB e.off).size ≤ 1000 := itoa_len e.off Hek.out.o1 Hek.out.o2
          have hnw : (itoaB e.now).size ≤ 1000 := itoa_len e.now Hek.out.t1 Hek.out.t2
          have hpe := Hek.out.p
          have hdg := dec_len e.sum.toNat (by have := Hek.out.s2; omega)
          have hst := enc_step (headL seed ++ [10] ++ linesL (es.take k)) e
          simp only [List.take_length]
          have r1 := ref_Digits e.off Hek.out.o1 Hek.out.o2
          have r2 := ref_Digits e.now Hek.out.t1 Hek.out.t2
          have r3 := ref_Big e.sum Hek.out.s1 Hek.out.s2
          have hS : (⟨(headL seed ++ [10] ++ linesL (es.take k)).toArray⟩ : ByteArray).size ≤ 200000000 := hpl
          have hI : (⟨(itemsL e.items).toArray⟩ : ByteArray).size ≤ 2000000 := by show (itemsL e.items).length ≤ _; omega
          have hB : (⟨(Lib.decDigits e.sum.toNat).toArray⟩ : ByteArray).size ≤ 1000 := hdg
          generalize (⟨(headL seed ++ [10] ++ linesL (es.take k)).toArray⟩ : ByteArray) = S at hS hst ⊢
          generalize (⟨(itemsL e.items).toArray⟩ : ByteArray) = I at hI hst ⊢
          generalize (⟨(Lib.decDigits e.sum.toNat).toArray⟩ : ByteArray) = B at hB hst r3 ⊢
          generalize itoaB e.off = D at hof hst r1 ⊢
          generalize itoaB e.now = T at hnw hst r2 ⊢
          have Hst := Lib.hid hst
          have R1 := Lib.hid r1
          have R2 := Lib.hid r2
          have R3 := Lib.hid r3
          have q1 : ¬ (9223372036854775807 < S.size + D.size) := by omega
          have q2 : ¬ (9223372036854775807 < S.size + D.size + 1) := by omega
          have q3 : ¬ (9223372036854775807 < S.size + D.size + 1 + T.size) := by omega
          have q4 : ¬ (9223372036854775807 < S.size + D.size + 1 + T.size + 1) := by omega
          have q5 : ¬ (9223372036854775807 < S.size + D.size + 1 + T.size + 1 + e.person.size) := by omega
          have q6 : ¬ (9223372036854775807 < S.size + D.size + 1 + T.size + 1 + e.person.size + 1) := by omega
          have q7 : ¬ (9223372036854775807 < S.size + D.size + 1 + T.size + 1 + e.person.size + 1 + I.size) := by omega
          have q8 : ¬ (9223372036854775807 < S.size + D.size + 1 + T.size + 1 + e.person.size + 1 + I.size + 1) := by omega
          have q9 : ¬ (9223372036854775807 < S.size + D.size + 1 + T.size + 1 + e.person.size + 1 + I.size + 1 + B.size) := by omega
          have q10 : ¬ (9223372036854775807 < S.size + D.size + 1 + T.size + 1 + e.person.size + 1 + I.size + 1 + B.size + 1) := by omega
          clear hst r1 r2 r3 hpl hil hil2 hdg hdl hhl
          refine wp_region_ext w Hx.out (by kernel_rfl) (by kernel_rfl) ?_
          have hcell := fun (y : XW w) => y.cell
          repeat (go_big_quiet_step (first
            | (go_at_call 26; with_reducible exact ext_calls (R1.out _))
            | (go_at_call 26; with_reducible exact ext_calls (R2.out _))
            | (go_at_call 34; exact ext_calls (R3.out _))))
          refine wpQuiet_nil ?_
          rintro _ ⟨y, rfl⟩
          rw [Hst.out]
          go_wp2_with fail
          go_roundw
          case rel => exact ⟨k + 1, hlt, by go_num, by rw [linesL_snoc es k e He.out]; simp, y.h⟩
          case measure => simp [intOf]; omega
    · obtain rfl : k = n := by omega
      go_wp2_with fail
      go_ret
      refine ⟨?_, Hx.out⟩
      rw [List.take_of_length_le (Nat.le_of_eq Hl.out)]
      rfl
end Go.Proofs.YtkfcbafmefdhmaaDoor
