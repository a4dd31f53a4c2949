/-
  What is proved here: the laws' own example, lives, is true; heavy; the document's Of. Conditions: the library's variables, and the names of the kinds, hold what their text lays.
-/
import Derived.Test.YtmhkgfoimkonoaaDoorExI2
import Derived.Test.YtmhkgfoimkonoaaDoorEvBig
namespace Go.Proofs.YtmhkgfoimkonoaaDoor
open Go Go.RowKit Go.Proofs
attribute [local go_sem ↓] Go.wp_at_zero Go.wp_at_succ
theorem xl_may : mayE (⟨⟨#[115]⟩, 1, 5, 1, ⟨#[112]⟩, ⟨#[97]⟩, 0, ⟨#[]⟩⟩ : Ev) = true := by
  have h1 : nameB ⟨#[115]⟩ = true := by decide +kernel
  have h2 : nameB ⟨#[112]⟩ = true := by decide +kernel
  have h3 : nameB ⟨#[97]⟩ = true := by decide +kernel
  rw [may_head h1 (by decide) (by decide) (by decide) (by decide), tail_a (.inr (.inl rfl))]
  show (nameB ⟨#[112]⟩ && nameB ⟨#[97]⟩ && decide ((0 : Int) = 0) && noneB ⟨#[]⟩) = true
  rw [h2, h3]
  decide +kernel
theorem xl_fmt : fmtE (⟨⟨#[115]⟩, 1, 5, 1, ⟨#[112]⟩, ⟨#[97]⟩, 0, ⟨#[]⟩⟩ : Ev) = (⟨#[115, 32, 49, 32, 53, 32, 111, 112, 101, 110, 101, 100, 32, 112, 32, 97, 32, 48, 32, 46]⟩ : ByteArray) := by
  unfold fmtE wordsE
  have h1 : itoaB 1 = ⟨#[49]⟩ := by
    unfold itoaB Lib.itoa
    rw [if_neg (by decide), show Int.toNat 1 = 1 from rfl, Lib.decDigits, dif_pos (by decide)]
    decide +kernel
  have h2 : itoaB 5 = ⟨#[53]⟩ := by
    unfold itoaB Lib.itoa
    rw [if_neg (by decide), show Int.toNat 5 = 5 from rfl, Lib.decDigits, dif_pos (by decide)]
    decide +kernel
  have h3 : itoaB 0 = ⟨#[48]⟩ := by
    unfold itoaB Lib.itoa
    rw [if_neg (by decide), show Int.toNat 0 = 0 from rfl, Lib.decDigits, dif_pos (by decide)]
    decide +kernel
  simp only
  rw [h1, h2, h3]
  decide +kernel
theorem xl_asc : Asc [(⟨⟨#[115]⟩, 1, 5, 1, ⟨#[112]⟩, ⟨#[97]⟩, 0, ⟨#[]⟩⟩ : Ev)] := List.pairwise_singleton _ _
theorem xl_ids : Ids [(⟨⟨#[115]⟩, 1, 5, 1, ⟨#[112]⟩, ⟨#[97]⟩, 0, ⟨#[]⟩⟩ : Ev)] := List.pairwise_singleton _ _
theorem xl_all : ∀ e ∈ [(⟨⟨#[115]⟩, 1, 5, 1, ⟨#[112]⟩, ⟨#[97]⟩, 0, ⟨#[]⟩⟩ : Ev)], mayE e = true := fun e he => by rw [List.mem_singleton.1 he]; exact xl_may
theorem xl_text : textL [(⟨⟨#[115]⟩, 1, 5, 1, ⟨#[112]⟩, ⟨#[97]⟩, 0, ⟨#[]⟩⟩ : Ev)] = (⟨#[115, 32, 49, 32, 53, 32, 111, 112, 101, 110, 101, 100, 32, 112, 32, 97, 32, 48, 32, 46, 10]⟩ : ByteArray).data.toList := by
  unfold textL
  simp only [List.map_cons, List.map_nil, List.flatten_cons, List.flatten_nil, List.append_nil, xl_fmt]
  decide +kernel
theorem xl_imp1 : impS (⟨#[115, 32, 49, 32, 53, 32, 111, 112, 101, 110, 101, 100, 32, 112, 32, 97, 32, 48, 32, 46]⟩ : ByteArray) = ([], 1, 2) := by
  have h : freeL 10 ((⟨#[115, 32, 49, 32, 53, 32, 111, 112, 101, 110, 101, 100, 32, 112, 32, 97, 32, 48, 32, 46]⟩ : ByteArray)).data.toList := by
    intro x hx
    have : ∀ y ∈ ((⟨#[115, 32, 49, 32, 53, 32, 111, 112, 101, 110, 101, 100, 32, 112, 32, 97, 32, 48, 32, 46]⟩ : ByteArray)).data.toList, y ≠ 10 := by decide +kernel
    exact this x hx
  have := impL_torn h (by decide +kernel) []
  simpa [impS] using this
theorem xl_imp2 : impS (⟨#[115, 32, 49, 32, 53, 32, 111, 112, 101, 110, 101, 100, 32, 112, 32, 97, 32, 48, 32, 46, 10]⟩ : ByteArray) = ([(⟨⟨#[115]⟩, 1, 5, 1, ⟨#[112]⟩, ⟨#[97]⟩, 0, ⟨#[]⟩⟩ : Ev)], 0, 0) := by
  unfold impS
  rw [← xl_text]
  exact imp_text [(⟨⟨#[115]⟩, 1, 5, 1, ⟨#[112]⟩, ⟨#[97]⟩, 0, ⟨#[]⟩⟩ : Ev)] [] xl_asc xl_ids xl_all
theorem xl_join : allE [(⟨⟨#[115]⟩, 1, 5, 1, ⟨#[112]⟩, ⟨#[97]⟩, 0, ⟨#[]⟩⟩ : Ev)] = [(⟨⟨#[115]⟩, 1, 5, 1, ⟨#[112]⟩, ⟨#[97]⟩, 0, ⟨#[]⟩⟩ : Ev)] := by rw [allE_may xl_all, join_self xl_asc xl_ids xl_all]
theorem xl_textB : textB (allE [(⟨⟨#[115]⟩, 1, 5, 1, ⟨#[112]⟩, ⟨#[97]⟩, 0, ⟨#[]⟩⟩ : Ev)]) = (⟨#[115, 32, 49, 32, 53, 32, 111, 112, 101, 110, 101, 100, 32, 112, 32, 97, 32, 48, 32, 46, 10]⟩ : ByteArray) := by
  rw [xl_join]
  unfold textB
  rw [xl_text, bts_of]
theorem sm_of_may {l : List Ev} (h : ∀ e ∈ l, mayE e = true) : ∀ e ∈ l, EvSm e := fun e he => evSm_may (h e he)
set_option maxRecDepth 100000 in
set_option maxHeartbeats 4000000 in
theorem law42_lives (w : World) (hv : Vars w) : Calls Tryd.prog 15 #[] w fun e w' => e = .returned (.bool true) ∧ Ext w w' := by
  have Hv := Lib.hid hv
  have H1 := Lib.hid (ex_Import (⟨#[115, 32, 49, 32, 53, 32, 111, 112, 101, 110, 101, 100, 32, 112, 32, 97, 32, 48, 32, 46]⟩ : ByteArray) w (by decide) hv)
  unfold ImPost at H1
  rw [xl_imp1] at H1
  clear hv
  go_enter Tryd.func15, Tryd.ntmps15
  go_wp2_with fail
  refine H1.out.mono ?_
  rintro _ w1 ⟨B1, k1, c1, rfl, _, hx1⟩
  have Hx1 := Lib.hid hx1
  have H2 := Lib.hid (ex_Import (⟨#[115, 32, 49, 32, 53, 32, 111, 112, 101, 110, 101, 100, 32, 112, 32, 97, 32, 48, 32, 46, 10]⟩ : ByteArray) w1 (by decide) (Hv.out.ext hx1))
  unfold ImPost at H2
  rw [xl_imp2] at H2
  clear hx1 H1
  go_wp2_with fail
  refine H2.out.mono ?_
  rintro _ w2 ⟨B2, k2, c2, rfl, hown2, hx2⟩
  have Hx2 := Lib.hid (Hx1.out.trans hx2)
  have hk2 : k2 = 1 := hown2.1.symm
  subst hk2
  have H3 := Lib.hid (ex_All B2 1 c2 _ _ w2 hown2.evSl (by omega) (sm_of_may xl_all) (Hv.out.ext Hx2.out))
  rw [xl_textB] at H3
  clear hx2 hown2 H2
  go_wp2_with fail
  refine H3.out.mono ?_
  rintro _ w3 ⟨rfl, hx3⟩
  have Hx3 := Lib.hid (Hx2.out.trans hx3)
  clear hx3
  go_wp2_with fail
  go_ret
  exact ⟨rfl, Hx3.out⟩
theorem textL_len2 {l : List Ev} (h : ∀ e ∈ l, mayE e = true) : (textL l).length ≤ l.length * 16009 := by
  unfold textL
  induction l with
  | nil => simp
  | cons a l ih =>
    have h1 := fmtE_small (h a (by simp))
    have h2 := ih (fun e he => h e (by simp [he]))
    have h3 := size_list (fmtE a)
    simp only [List.map_cons, List.flatten_cons, List.length_append, List.length_cons, List.length_nil]
    omega
theorem allE_len (l : List Ev) : (allE l).length ≤ l.length := by
  have h1 := once_len (l.filter mayE)
  have h2 : (allE l).length = (onceL (l.filter mayE)).length := (sortL_ok lessE_swo _).2.len
  have h3 : (l.filter mayE).length ≤ l.length := List.length_filter_le _ _
  omega
theorem text_size {l : List Ev} (h : l.length ≤ 60) : (textB (allE l)).size ≤ 999999 := by
  have h1 := textL_len2 (allE_ok l)
  have h2 := allE_len l
  unfold textB
  rw [bts_size]
  omega
/-- The text of joined events is imported to them. -/
theorem imp_all (l : List Ev) : impS (textB (allE l)) = (allE l, 0, 0) := by
  unfold impS textB
  rw [bts_data]
  exact imp_text (allE l) [] (allE_asc l) (allE_ids l) (allE_ok l)
def heavyE (l : List Ev) : Bool := decide (30 < l.length) || l.any (fun e => bigE e 300)
set_option maxRecDepth 100000 in
set_option maxHeartbeats 4000000 in
theorem law_heavy (A : Option Addr) (n c : Nat) (l : List Ev) (ok : Nat → Prop) (w : World) (hs : Sl evR ok w A n l) (hn : n ≤ 140737488355328) (hwf : ∀ e ∈ l, EvWf e) :
    Calls Tryd.prog 16 #[.slice A n c] w fun e w' => e = .returned (.bool (heavyE l)) ∧ Ext w w' := by
  have hnm : n ≤ maxLen := by unfold maxLen; omega
  have hl := hs.1
  have GS := Lib.hid (ref_Some A n c l 300 ok w hs hnm hwf)
  clear hs hwf
  by_cases h30 : 30 < n
  · have Hf := Lib.hid (show heavyE l = true by unfold heavyE; rw [hl, decide_eq_true h30]; rfl)
    clear hl
    go_enter Tryd.func16, Tryd.ntmps16
    go_wp2_with fail
    go_ret
    exact ⟨by rw [Hf.out]; rfl, Keeps.refl _ _⟩
  · have Hf := Lib.hid (show heavyE l = l.any (fun e => bigE e 300) by unfold heavyE; rw [hl, decide_eq_false h30]; rfl)
    clear hl
    go_enter Tryd.func16, Tryd.ntmps16
    go_wp2_with fail
    refine GS.out.mono ?_
    rintro _ w2 ⟨rfl, hx2⟩
    go_wp2_with fail
    go_ret
    have h31 : decide (30 < (n : Int)) = false := by simp; omega
    refine ⟨?_, hx2⟩
    rw [Hf.out]
    show Ending.returned (.bool (decide (30 < (n : Int)) || _)) = _
    rw [h31]; rfl
theorem heavy_no {l : List Ev} (h : heavyE l = false) : l.length ≤ 30 ∧ ∀ e ∈ l, EvSm e := by
  unfold heavyE at h
  rw [Bool.or_eq_false_iff, decide_eq_false_iff_not] at h
  refine ⟨by omega, fun e he => evSm_of (m := 300) ?_ (by omega)⟩
  have := List.any_eq_false.1 h.2 e he
  simpa using this
def ofP (person : ByteArray) (e : Ev) : Bool := !noneB person && (e.person == person)
set_option maxRecDepth 100000 in
set_option maxHeartbeats 4000000 in
theorem rf_Of (person : ByteArray) (A : Option Addr) (n c : Nat) (l : List Ev) (ok : Nat → Prop) (w : World) (hs : Sl evR ok w A n l) (hn : n ≤ 100000) :
    Calls Tryd.prog 24 #[.slice A n c, .string person] w fun r w' => ∃ B m cb, r = .returned (.slice B m cb) ∧ m ≤ n ∧ Own evR 30 (fun _ => True) w' w.heap.size (.slice B m cb) m (l.filter (ofP person)) ∧ Ext w w' := by
  have Hs := Lib.hid hs
  have Hl := Lib.hid hs.1
  obtain ⟨i0, hi0, hz0, hz1, hz2⟩ := info_part3 info_apiEv
  have hpn : (person.toList == ([] : List UInt8)) = noneB person := eq_nil_text person
  have hpn2 : (person.toList == (⟨#[]⟩ : ByteArray).toList) = noneB person := by rw [show (⟨#[]⟩ : ByteArray).toList = [] by rw [ByteArray.toList_eq]]; exact hpn
  clear hs
  cases hnp : noneB person <;> rw [hnp] at hpn hpn2
  all_goals
    go_enter Tryd.func24, Tryd.ntmps24
    go_wp2_with fail
    go_loopw [5, 6] (fun v i wr => ∃ (k q : Nat) (B : Option Addr) (cb : Nat), k ≤ n ∧ q ≤ k ∧ i = .int .i64 k ∧ v = .slice B q cb ∧ Own evR 30 (fun _ => True) wr w.heap.size (.slice B q cb) q ((l.take k).filter (ofP person)) ∧ Ext w wr) (fun _ i _ => n - (intOf i).toNat)
    case atStart => exact ⟨0, 0, _, 0, Nat.zero_le _, Nat.le_refl _, rfl, rfl, Own.new_nil (blk_new _ _) (Nat.le_refl _), (Keeps.refl _ _).alloc _⟩
    case round =>
      obtain ⟨k, q, B, cb, hk, hqk, rfl, rfl, hown, hx⟩ := hrel
      have Hown := Lib.hid hown
      have Hx := Lib.hid hx
      have hsz := hx.size
      clear hown hx
      by_cases hlt : k < n
      · obtain ⟨b, o, e, rfl, hb, _, he, d0, d1, d2, d3, d4, d5, d6, d7⟩ := (Hs.out.ext Hx.out).ev hlt
        have j0 : (0 : Int) ≤ (k : Int) := by omega
        have j1 : (k : Int) < (n : Int) := by omega
        have Hf := Lib.hid (filter_snoc (p := ofP person) he)
        have Hxx := Lib.hid (Keeps.refl (fun _ => True) wr)
        have hpe : (e.person == person) = (e.person.toList == person.toList) := beq_toListBytes _ _
        clear he
        cases hm : (e.person == person)
        · rw [hm] at hpe
          have hpe' := hpe.symm
          have Hst := Lib.hid (show (l.take (k + 1)).filter (ofP person) = (l.take k).filter (ofP person) by rw [Hf.out]; simp [ofP, hm])
          clear hpe hm
          go_wp2_with fail
          go_roundw
          case rel => exact ⟨k + 1, q, B, cb, by omega, by omega, by go_num, rfl, by rw [Hst.out]; exact Hown.out, Hx.out⟩
          case measure => simp [intOf]; omega
        · rw [hm] at hpe
          have hpe' := hpe.symm
          first
          | (have Hst := Lib.hid (show (l.take (k + 1)).filter (ofP person) = (l.take k).filter (ofP person) by rw [Hf.out]; simp [ofP, hnp])
             clear hpe hm
             go_wp2_with fail
             go_roundw
             case rel => exact ⟨k + 1, q, B, cb, by omega, by omega, by go_num, rfl, by rw [Hst.out]; exact Hown.out, Hx.out⟩
             case measure => simp [intOf]; omega)
          | (have Hst := Lib.hid (show (l.take (k + 1)).filter (ofP person) = (l.take k).filter (ofP person) ++ [e] by rw [Hf.out]; simp [ofP, hnp, hm])
             clear hpe hm
             go_wp2_with (at_builtin; refine wpList_append_Own (ok := fun _ => True) (R := evR) _ rfl (.tmp 25) (.tmp 30) 22 rfl 30 i0 _ 96 w.heap.size Tryd.underlying22 hi0 hz0 hz1 hz2 rfl (by decide) rfl (Hown.out.ext (by repeat (first | with_reducible exact Hxx.out | with_reducible exact Keeps.refl _ _ | with_reducible refine Keeps.drew ?_ | with_reducible refine Keeps.drewN ?_ _ | with_reducible refine Keeps.alloc ?_ _))) _ 1 1 [e] rfl (Srcs.one_new rfl (by first | exact blk_new _ _ | exact blk_new_ _ _ (by simp)) rfl) (by omega) (by decide) (by have := Hxx.out.size; first | omega | (simp; omega)) ?_; intro A8 c8 w8 hown8 hg8 hat8; have Hown8 := Lib.hid hown8; have Hx8 := Lib.hid (show Ext w w8 from Keeps.grown (by repeat (first | with_reducible exact Hx.out.trans Hxx.out | with_reducible exact Keeps.refl _ _ | with_reducible refine Keeps.drew ?_ | with_reducible refine Keeps.drewN ?_ _ | with_reducible refine Keeps.alloc ?_ _)) hg8 (fun g hg hl => by have := (Hown.out.lt g hg).1; omega)); clear hown8 hg8 hat8)
             go_roundw
             case rel => exact ⟨k + 1, q + 1, A8, c8, by omega, by omega, by go_num, rfl, by rw [Hst.out]; exact Hown8.out, Hx8.out⟩
             case measure => simp [intOf]; omega)
      · obtain rfl : k = n := by omega
        have hown9 := Hown.out
        rw [List.take_of_length_le (Nat.le_of_eq Hl.out)] at hown9
        have HE := Lib.hid hown9
        clear hown9
        go_wp2_with fail
        go_ret
        exact ⟨B, q, cb, rfl, hqk, HE.out, Hx.out⟩
end Go.Proofs.YtmhkgfoimkonoaaDoor
