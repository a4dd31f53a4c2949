/-
  What is proved here: the program's digits, the document's Read and Digits return what the plain functions say. Conditions: texts that are texts; a number that is told is not below 0, and at most 2^40.
  the document's Read and Digits return what the plain functions say. Conditions: texts that are texts; a number that is told is not below 0, and at most 2^40.
  the document's Kinds are the kinds' names, in new memory; its some and none put a point for nothing, and back. Conditions: none.
  the digits of a number are read as it; a point that stands for nothing is read as nothing. No program is in sight. No condition but those told.
  the document's Format of an event that may be is the plain function's text. Conditions: the event may be.
-/
import Derived.Test.YtpkkkhgmkndpdaaGreatDoorEvFmt
import Derived.Deep.RegionHeld3
import Derived.Deep.DeepCutAuto
namespace Go.Proofs.YtpkkkhgmkndpdaaGreatDoor
open Go Go.RowKit Go.Proofs
attribute [local go_sem ↓] Go.wp_at_zero Go.wp_at_succ

def digitB (c : UInt8) : Bool := decide (48 ≤ c.toNat) && decide (c.toNat ≤ 57)
def digOk (s : ByteArray) : Bool := decide (1 ≤ s.size) && decide (s.size ≤ 13) && s.data.toList.all digitB
def zeroB (s : ByteArray) : Bool := decide (1 < s.size) && (s.data.toList.head? == some 48)
def digN (s : ByteArray) : Int := if digOk s then (digV s.data.toList : Int) else 0
def readI (s : ByteArray) : Int := if digOk s && !zeroB s then (digV s.data.toList : Int) else -1
theorem digV_snoc (l : List UInt8) (c : UInt8) : digV (l ++ [c]) = digV l * 10 + (c.toNat - 48) := by
  unfold digV; rw [List.foldl_append]; rfl
theorem digV_lt (l : List UInt8) (h : l.all digitB = true) : digV l < 10 ^ l.length := by
  suffices ∀ (m : List UInt8) (a b : Nat), m.all digitB = true → a < 10 ^ b → m.foldl (fun a c => a * 10 + (c.toNat - 48)) a < 10 ^ (b + m.length) by
    have h9 := this l 0 0 h (by simp)
    rw [Nat.zero_add] at h9
    exact h9
  intro m
  induction m with
  | nil => intro a b _ h; exact h
  | cons c m ih =>
    intro a b h1 h2
    rw [List.all_cons, Bool.and_eq_true] at h1
    have h3 := h1.1
    unfold digitB at h3
    simp only [Bool.and_eq_true, decide_eq_true_eq] at h3
    rw [List.foldl_cons, List.length_cons, show b + (m.length + 1) = (b + 1) + m.length by omega]
    refine ih _ _ h1.2 ?_
    rw [Nat.pow_succ]
    omega
def digAt (s : ByteArray) (k : Nat) : Prop := (s.data.toList.take k).all digitB = true
theorem digAt_zero (s : ByteArray) : digAt s 0 := by simp [digAt]
theorem digAt_step {s : ByteArray} {k : Nat} (hk : k < s.size) (h : digAt s k) (h1 : 48 ≤ s[k].toNat) (h2 : s[k].toNat ≤ 57) : digAt s (k + 1) := by
  unfold digAt at *
  rw [take_snoc s k hk, List.all_append, h]
  simp [digitB, h1, h2]
theorem digAt_no {s : ByteArray} {k : Nat} (hk : k < s.size) (h : s[k].toNat < 48 ∨ 57 < s[k].toNat) : digOk s = false := by
  unfold digOk
  have : s.data.toList.all digitB = false := by
    rw [Bool.eq_false_iff]
    intro h9
    have := List.all_eq_true.1 h9 s[k] (by exact List.getElem_mem (by simpa using hk))
    unfold digitB at this
    simp only [Bool.and_eq_true, decide_eq_true_eq] at this
    omega
  rw [this, Bool.and_false]
theorem digAt_done {s : ByteArray} (h : digAt s s.size) (h1 : 1 ≤ s.size) (h2 : s.size ≤ 13) : digOk s = true := by
  unfold digOk
  unfold digAt at h
  rw [take_all s _ (Nat.le_refl _)] at h
  rw [h]; simp [h1, h2]
theorem digAt_lt {s : ByteArray} {k : Nat} (h : digAt s k) (hk : k ≤ 13) : digV (s.data.toList.take k) < 10000000000000 := by
  have h1 := digV_lt _ h
  have h2 : (s.data.toList.take k).length ≤ 13 := Nat.le_trans (List.length_take_le _ _) hk
  have h3 := Nat.pow_le_pow_right (n := 10) (by omega) h2
  have h4 : (10 : Nat) ^ 13 = 10000000000000 := by decide
  omega
theorem digAt_next {s : ByteArray} {k : Nat} (hk : k < s.size) : digV (s.data.toList.take (k + 1)) = digV (s.data.toList.take k) * 10 + (s[k].toNat - 48) := by
  rw [take_snoc s k hk, digV_snoc]
theorem digOk_size {s : ByteArray} (h : digOk s = true) : 1 ≤ s.size ∧ s.size ≤ 13 := by
  unfold digOk at h
  simp only [Bool.and_eq_true, decide_eq_true_eq] at h
  exact h.1
theorem digOk_no1 {s : ByteArray} (h : s.size < 1) : digOk s = false := by
  unfold digOk; rw [show decide (1 ≤ s.size) = false from decide_eq_false (by omega)]; rfl
theorem digOk_no2 {s : ByteArray} (h : 13 < s.size) : digOk s = false := by
  unfold digOk; rw [show decide (s.size ≤ 13) = false from decide_eq_false (by omega)]; simp

def digC (c : Int) : UInt8 := UInt8.ofNat c.toNat
/-- 'string([]byte{c})', the bytes being a new block. -/
theorem conv_byte (c : Int) (h0 : 0 ≤ c) (h1 : c < 256) (w : World) :
    (convert 152 9 (.slice (some ⟨w.heap.size, 0, none⟩) 1 1)).run Tryz.prog (w.alloc (.cells #[.int .u8 c] 5)) = .ok (.string ⟨#[digC c]⟩) (w.alloc (.cells #[.int .u8 c] 5)) := by
  have h := run_convert_bytes_back (P := Tryz.prog) (w.alloc (.cells #[.int .u8 c] 5)) 152 9 5 ⟨w.heap.size, 0, none⟩ 1 [UInt8.ofNat c.toNat] Tryz.underlying152 Tryz.underlying5 Tryz.underlying9 (fun j hj => by
    have : j = 0 := by simpa using hj
    subst this
    rw [ad_add]
    refine blk_cell (blk_new w _) 0 ?_
    have e : ((UInt8.ofNat c.toNat).toNat : Int) = c := by
      rw [UInt8.toNat_ofNat']; omega
    show some (Value.int .u8 c) = some (.int .u8 ((UInt8.ofNat c.toNat).toNat : Int))
    rw [e])
  exact h

theorem cons_bytes (c : UInt8) (l : List UInt8) : (⟨#[c]⟩ : ByteArray) ++ ⟨l.toArray⟩ = ⟨(c :: l).toArray⟩ := ByteArray.mk_append_mk [c] l
def strLen : Value → Nat | .string s => s.size | _ => 0
theorem digC_mod (x : Nat) : digC (48 + (x : Int) % 10) = UInt8.ofNat (48 + x % 10) := by unfold digC; congr 1
theorem dec_step (u : Nat) (h : ¬ u < 10) : Lib.decDigits u = Lib.decDigits (u / 10) ++ [UInt8.ofNat (48 + u % 10)] := by
  rw [Lib.decDigits, dif_neg h]
theorem dec_one (u : Nat) (h : u < 10) : Lib.decDigits u = [UInt8.ofNat (48 + u)] := by
  rw [Lib.decDigits, dif_pos h]

set_option maxRecDepth 100000 in
set_option maxHeartbeats 2000000 in
theorem ref_Digits (n : Int) (h0 : 0 ≤ n) (h1 : n ≤ 1099511627776) (w : World) :
    Calls Tryz.prog 127 #[.int .i64 n] w fun e w' => e = .returned (.string (itoaB n)) ∧ Ext w w' := by
  obtain ⟨u, rfl⟩ : ∃ u : Nat, n = u := ⟨n.toNat, by omega⟩
  have hlen := itoa_len u (by omega) h1
  have Hit := Lib.hid (Lib.itoa_nonneg u)
  rw [Hit.out] at hlen
  go_enter Tryz.func127, Tryz.ntmps127
  go_wp2_with fail
  go_loopw [0, 3] (fun i s wr => ∃ (x : Nat) (l : List UInt8), x ≤ u ∧ i = .int .i64 x ∧ s = .string ⟨l.toArray⟩ ∧ Lib.decDigits u = Lib.decDigits x ++ l ∧ Ext w wr) (fun i _ _ => (intOf i).toNat)
  case atStart => exact ⟨u, [], Nat.le_refl _, rfl, rfl, by simp, Keeps.refl _ _⟩
  case round =>
    obtain ⟨x, l, hx, rfl, rfl, hd, hxx⟩ := hrel
    have hl : l.length ≤ 1000 := by rw [hd] at hlen; simp at hlen; omega
    have Hd := Lib.hid hd
    have Hxx := Lib.hid hxx
    clear hd hxx
    by_cases hlt : 9 < x
    · have hcv := conv_byte (48 + (x : Int) % 10) (by omega) (by omega)
      go_wp2_with fail
      go_roundw
      case rel => exact ⟨x / 10, UInt8.ofNat (48 + x % 10) :: l, by omega, by go_num, by rw [cons_bytes, digC_mod x], by rw [Hd.out, dec_step x (by omega)]; simp, Keeps.alloc Hxx.out _⟩
      case measure => simp [intOf]; omega
    · have hcv := conv_byte (48 + (x : Int)) (by omega) (by omega)
      go_wp2_with fail
      go_ret
      refine ⟨?_, Keeps.alloc Hxx.out _⟩
      show Ending.returned (.string (⟨#[digC (48 + (x : Int))]⟩ ++ ⟨l.toArray⟩)) = _
      rw [cons_bytes, show digC (48 + (x : Int)) = UInt8.ofNat (48 + x) by unfold digC; congr 1]
      unfold itoaB
      rw [Hit.out, Hd.out, dec_one x (by omega)]
      rfl


theorem zeroB_eq {s : ByteArray} (h : 1 < s.size) : zeroB s = ((s[0].toNat : Int) == 48) := by
  unfold zeroB
  have h0 : 0 < s.data.toList.length := by simp; show 0 < s.size; omega
  have e : s.data.toList.head? = some s[0] := by
    rw [List.head?_eq_getElem?, List.getElem?_eq_getElem h0]; rfl
  rw [e, show decide (1 < s.size) = true by simpa using h, Bool.true_and, show (48 : Int) = ((48 : UInt8).toNat : Int) from rfl, byte_eq]
  rfl
theorem zeroB_no {s : ByteArray} (h : ¬ 1 < s.size) : zeroB s = false := by
  unfold zeroB; rw [show decide (1 < s.size) = false by simpa using h]; rfl
end Go.Proofs.YtpkkkhgmkndpdaaGreatDoor
namespace Go.Proofs.YtpkkkhgmkndpdaaGreatDoor
open Go Go.RowKit Go.Proofs
attribute [local go_sem ↓] Go.wp_at_zero Go.wp_at_succ
def KindsPost (w : World) (e : Ending) (w' : World) : Prop := ∃ g, e = .returned (.slice (some ⟨g, 0, none⟩) 15 15) ∧ w'.heap[g]? = some (.cells (kindsB.map Value.string).toArray 9) ∧ w.heap.size ≤ g ∧ Ext w w'
theorem ref_Kinds (w : World) : Calls Tryz.prog 128 #[] w (KindsPost w) := by
  go_enter Tryz.func128, Tryz.ntmps128
  go_wp2_with fail
  go_ret
  exact ⟨_, rfl, blk_new _ _, Nat.le_refl _, (Keeps.refl _ _).alloc _⟩
def undotB (s : ByteArray) : ByteArray := if s.data.toList == [46] then ⟨#[]⟩ else s
theorem ref_some (s : ByteArray) (w : World) : Calls Tryz.prog 129 #[.string s] w fun e w' => e = .returned (.string (dotB s)) ∧ w = w' := by
  cases hn : noneB s <;> have hn' : s.toList.isEmpty = _ := hn
  · have Hd := Lib.hid (show dotB s = s by unfold dotB; rw [hn]; rfl)
    go_enter Tryz.func129, Tryz.ntmps129
    go_wp2_with fail
    go_ret
    exact ⟨by rw [Hd.out]; rfl, rfl⟩
  · have Hd := Lib.hid (show dotB s = ⟨#[46]⟩ by unfold dotB; rw [hn]; rfl)
    go_enter Tryz.func129, Tryz.ntmps129
    go_wp2_with fail
    go_ret
    exact ⟨by rw [Hd.out]; rfl, rfl⟩
end Go.Proofs.YtpkkkhgmkndpdaaGreatDoor
namespace Go.Proofs.YtpkkkhgmkndpdaaGreatDoor
open Go Go.RowKit
theorem undot_dot {s : ByteArray} (h : s ≠ ⟨#[46]⟩) : undotB (dotB s) = s := by
  unfold dotB
  cases h1 : noneB s
  · rw [if_neg (by decide)]
    unfold undotB
    rw [if_neg]
    intro h2
    apply h
    apply toList_inj
    rw [beq_iff_eq.1 h2]
  · rw [if_pos rfl, noneB_eq h1]; rfl
theorem dec_first (u : Nat) : ∀ c, (Lib.decDigits u).head? = some c → (Lib.decDigits u).length = 1 ∨ c ≠ 48 := by
  induction u using Nat.strongRecOn with
  | ind u ih =>
    intro c hc
    rw [Lib.decDigits] at hc ⊢
    by_cases h : u < 10
    · rw [dif_pos h]; exact .inl rfl
    · rw [dif_neg h] at hc ⊢
      right
      obtain ⟨x, xs, hx⟩ : ∃ x xs, Lib.decDigits (u / 10) = x :: xs := by
        cases hd : Lib.decDigits (u / 10) with
        | nil => rw [Lib.decDigits] at hd; split at hd <;> simp at hd
        | cons x xs => exact ⟨x, xs, rfl⟩
      rw [hx] at hc
      have hcx : x = c := by simpa using hc
      rcases ih (u / 10) (by omega) x (by rw [hx]; rfl) with h1 | h1
      · by_cases h10 : u / 10 < 10
        · rw [Lib.decDigits, dif_pos h10] at hx
          injection hx with hx _
          rw [← hcx, ← hx]
          intro e
          have := congrArg UInt8.toNat e
          rw [UInt8.toNat_ofNat'] at this
          have h48 : (48 : UInt8).toNat = 48 := rfl
          omega
        · rw [Lib.decDigits, dif_neg h10] at h1
          rw [List.length_append] at h1
          have : (Lib.decDigits (u / 10 / 10)).length ≠ 0 := by
            rw [Lib.decDigits]; split <;> simp
          simp at h1
          exact absurd h1 (by simpa using this)
      · rw [← hcx]; exact h1
theorem dec_len13 (u : Nat) (k : Nat) (h : u < 10 ^ (k + 1)) : (Lib.decDigits u).length ≤ k + 1 := by
  induction k generalizing u with
  | zero => rw [Lib.decDigits, dif_pos (by simpa using h)]; simp
  | succ k ih =>
    rw [Lib.decDigits]
    split
    · simp
    · rw [List.length_append]
      have := ih (u / 10) (by rw [Nat.pow_succ] at h; omega)
      simp; omega
theorem itoa_data (u : Nat) : (itoaB (u : Int)).data.toList = Lib.decDigits u := by rw [← Lib.itoa_nonneg]; simp [itoaB]
theorem itoa_size (u : Nat) : (itoaB (u : Int)).size = (Lib.decDigits u).length := by rw [← itoa_data]; simp
theorem dec_pos (u : Nat) : 1 ≤ (Lib.decDigits u).length := by rw [Lib.decDigits]; split <;> simp
theorem digOk_itoa {n : Int} (h0 : 0 ≤ n) (h1 : n ≤ 1099511627776) : digOk (itoaB n) = true ∧ digN (itoaB n) = n ∧ readI (itoaB n) = n := by
  obtain ⟨u, rfl⟩ : ∃ u : Nat, n = u := ⟨n.toNat, by omega⟩
  have hl := dec_len13 u 12 (by have : (10 : Nat) ^ (12 + 1) = 10000000000000 := by decide
                                omega)
  have hd := digits_val u
  have h2 : digOk (itoaB (u : Int)) = true := by
    unfold digOk
    rw [itoa_size, itoa_data]
    have hp := dec_pos u
    simp only [Bool.and_eq_true, decide_eq_true_eq, List.all_eq_true]
    exact ⟨⟨hp, hl⟩, fun x hx => by unfold digitB; have := hd.2 x hx; simp [this]⟩
  have h3 : zeroB (itoaB (u : Int)) = false := by
    unfold zeroB
    rw [itoa_size, itoa_data]
    rw [Bool.eq_false_iff]
    intro h9
    simp only [Bool.and_eq_true, decide_eq_true_eq, beq_iff_eq] at h9
    rcases dec_first u 48 h9.2 with h | h
    · omega
    · exact h rfl
  refine ⟨h2, ?_, ?_⟩
  · unfold digN; rw [h2, if_pos rfl, itoa_data, hd.1]
  · unfold readI; rw [h2, h3, itoa_data, hd.1]; rfl
theorem dot_itoa {n : Int} (h0 : 0 ≤ n) : dotB (itoaB n) = itoaB n := by
  unfold dotB
  obtain ⟨u, rfl⟩ : ∃ u : Nat, n = u := ⟨n.toNat, by omega⟩
  rw [if_neg]
  intro h
  have h1 := noneB_size h
  rw [itoa_size] at h1
  have := dec_pos u
  omega
theorem dot_kind {k : Nat} (h : k < 15) : dotB (kindsB.getD k ⟨#[]⟩) = kindsB.getD k ⟨#[]⟩ := by
  have : ∀ i : Fin 15, noneB (kindsB.getD i ⟨#[]⟩) = false := by decide +kernel
  unfold dotB
  rw [this ⟨k, h⟩]; rfl
theorem dot_name {s : ByteArray} (h : nameB s = true) : dotB s = s := by
  unfold dotB
  rw [if_neg]
  intro h1
  have h2 := noneB_size h1
  have := (nameB_size h).1
  omega
end Go.Proofs.YtpkkkhgmkndpdaaGreatDoor
namespace Go.Proofs.YtpkkkhgmkndpdaaGreatDoor
open Go Go.RowKit Go.Proofs
attribute [local go_sem ↓] Go.wp_at_zero Go.wp_at_succ
theorem ext_rule2 {X W : World} (h : Ext X W) : ∀ b o, b < X.heap.size → W.cell? ⟨b, o, none⟩ = X.cell? ⟨b, o, none⟩ := fun b o hb => h.cell (p := ⟨b, o, none⟩) hb trivial
theorem wpAnyH_strong {P : Program} {md : Region.Mode} {ops : Array Oper} {Q : Exit → Act → World → Prop} {S S' : World → Prop} (hs : ∀ w, S' w → S w) : ∀ (fuel : Nat) (listed : Array Bool) (a : Act) (w : World), wpAnyH P md ops Q S' fuel listed a w → wpAnyH P md ops Q S fuel listed a w
  | 0, _, _, _, h => h
  | fuel + 1, _, _, _, h => ⟨h.1, fun i hi => wpOp_mono (fun a' w' h' => ⟨hs _ h'.1, wpAnyH_strong hs fuel _ a' w' h'.2⟩) (h.2 i hi)⟩
theorem cat_list (a b : ByteArray) : (a ++ b).data.toList = a.data.toList ++ b.data.toList := by simp
theorem cat_join (a b c d e f g h : ByteArray) : a ++ ⟨#[32]⟩ ++ b ++ ⟨#[32]⟩ ++ c ++ ⟨#[32]⟩ ++ d ++ ⟨#[32]⟩ ++ e ++ ⟨#[32]⟩ ++ f ++ ⟨#[32]⟩ ++ g ++ ⟨#[32]⟩ ++ h = ⟨(Lib.join ([a, b, c, d, e, f, g, h].map (·.data.toList)) [32]).toArray⟩ := by
  apply ByteArray.ext
  apply Array.ext'
  simp [Lib.join, List.intercalate]
set_option maxRecDepth 100000 in
set_option maxHeartbeats 4000000 in
theorem ref_Format' (src person item text : ByteArray) (num tick value : Int) (kk : Nat) (w : World) (h : mayE (⟨src, num, tick, (kk : Int), person, item, value, text⟩ : Ev) = true) :
    Calls Tryz.prog 91 #[.agg #[.string src, .int .i64 num, .int .i64 tick, .int .i64 (kk : Int), .string person, .string item, .int .i64 value, .string text]] w fun r w' => r = .returned (.string (fmtE (⟨src, num, tick, (kk : Int), person, item, value, text⟩ : Ev))) ∧ Ext w w' := by
  have hF := mayF h
  have hk1 : (kk : Int) ≤ 14 := hF.kind1
  have hkl : kk < 15 := by omega
  obtain ⟨nm, hnm⟩ : ∃ nm, kindsB[kk]? = some nm := ⟨_, List.getElem?_eq_getElem hkl⟩
  have hn0 : 0 ≤ num := hF.num00
  have hn1 : num ≤ 1099511627776 := hF.num1
  have ht0 : 0 ≤ tick := hF.tick0
  have ht1 : tick ≤ 1099511627776 := hF.tick1
  have hv0 : 0 ≤ value := hF.value0
  have hv1 : value ≤ 1099511627776 := hF.value11
  have k0 : (0 : Int) ≤ (kk : Int) := by omega
  have k1 : (kk : Int) < 15 := by omega
  have Hw := Lib.hid (show wordsE (⟨src, num, tick, (kk : Int), person, item, value, text⟩ : Ev) = [src, itoaB num, itoaB tick, nm, person, item, itoaB value, text] by
    unfold wordsE; simp only [Int.toNat_natCast, List.getD_eq_getElem?_getD, hnm]; rfl)
  have Hd := Lib.hid (show dotB src = src ∧ dotB (itoaB num) = itoaB num ∧ dotB (itoaB tick) = itoaB tick ∧ dotB nm = nm ∧ dotB (itoaB value) = itoaB value from ⟨dot_name hF.src, dot_itoa hn0, dot_itoa ht0, (by have := dot_kind hkl; rw [List.getD_eq_getElem?_getD, hnm] at this; exact this), dot_itoa hv0⟩)
  have z1 : src.size ≤ 24 := (nameB_size hF.src).2
  have z2 : person.size ≤ 24 := hF.psize
  have z3 : item.size ≤ 24 := hF.isize
  have z4 : text.size ≤ 224 := hF.tsize
  have hi : ∀ n : Int, (itoaB n).size = (Lib.itoa n).length := fun n => by show (Lib.itoa n).toArray.size = _; simp
  have z5 : (itoaB num).size ≤ 1000 := by rw [hi]; exact itoa_len num hn0 hn1
  have z6 : (itoaB tick).size ≤ 1000 := by rw [hi]; exact itoa_len tick ht0 ht1
  have z7 : (itoaB value).size ≤ 1000 := by rw [hi]; exact itoa_len value hv0 hv1
  have z8 : nm.size ≤ 10 := kindsB_size nm (List.mem_of_getElem? hnm)
  have z9 := dotB_size person
  have z10 := dotB_size item
  have z11 := dotB_size text
  obtain ⟨S1, hS1⟩ : ∃ s, s = itoaB num := ⟨_, rfl⟩
  obtain ⟨S2, hS2⟩ : ∃ s, s = itoaB tick := ⟨_, rfl⟩
  obtain ⟨S3, hS3⟩ : ∃ s, s = itoaB value := ⟨_, rfl⟩
  obtain ⟨P1, hP1⟩ : ∃ s, s = dotB person := ⟨_, rfl⟩
  obtain ⟨P2, hP2⟩ : ∃ s, s = dotB item := ⟨_, rfl⟩
  obtain ⟨P3, hP3⟩ : ∃ s, s = dotB text := ⟨_, rfl⟩
  have C1 := Lib.hid (fun W : World => show Calls Tryz.prog 127 #[.int .i64 num] W (fun e w' => e = .returned (.string S1) ∧ Ext W w') by rw [hS1]; exact ref_Digits num hn0 hn1 W)
  have C2 := Lib.hid (fun W : World => show Calls Tryz.prog 127 #[.int .i64 tick] W (fun e w' => e = .returned (.string S2) ∧ Ext W w') by rw [hS2]; exact ref_Digits tick ht0 ht1 W)
  have C3 := Lib.hid (fun W : World => show Calls Tryz.prog 127 #[.int .i64 value] W (fun e w' => e = .returned (.string S3) ∧ Ext W w') by rw [hS3]; exact ref_Digits value hv0 hv1 W)
  have C4 := Lib.hid (fun W : World => show Calls Tryz.prog 129 #[.string person] W (fun e w' => e = .returned (.string P1) ∧ W = w') by rw [hP1]; exact ref_some person W)
  have C5 := Lib.hid (fun W : World => show Calls Tryz.prog 129 #[.string item] W (fun e w' => e = .returned (.string P2) ∧ W = w') by rw [hP2]; exact ref_some item W)
  have C6 := Lib.hid (fun W : World => show Calls Tryz.prog 129 #[.string text] W (fun e w' => e = .returned (.string P3) ∧ W = w') by rw [hP3]; exact ref_some text W)
  rw [← hS1, ← hS2, ← hS3] at Hw Hd
  rw [← hS1] at z5
  rw [← hS2] at z6
  rw [← hS3] at z7
  rw [← hP1] at z9
  rw [← hP2] at z10
  rw [← hP3] at z11
  have HP := Lib.hid (And.intro hP1 (And.intro hP2 hP3))
  have Hnm := Lib.hid (show ((kindsB.map Value.string).toArray)[kk]? = some (.string nm) by simp [hnm])
  have q1 : ¬ (9223372036854775807 < src.size + 1) := by omega
  have q2 : ¬ (9223372036854775807 < src.size + 1 + S1.size) := by omega
  have q3 : ¬ (9223372036854775807 < src.size + 1 + S1.size + 1) := by omega
  have q4 : ¬ (9223372036854775807 < src.size + 1 + S1.size + 1 + S2.size) := by omega
  have q5 : ¬ (9223372036854775807 < src.size + 1 + S1.size + 1 + S2.size + 1) := by omega
  have q6 : ¬ (9223372036854775807 < src.size + 1 + S1.size + 1 + S2.size + 1 + nm.size) := by omega
  have q7 : ¬ (9223372036854775807 < src.size + 1 + S1.size + 1 + S2.size + 1 + nm.size + 1) := by omega
  have q8 : ¬ (9223372036854775807 < src.size + 1 + S1.size + 1 + S2.size + 1 + nm.size + 1 + P1.size) := by omega
  have q9 : ¬ (9223372036854775807 < src.size + 1 + S1.size + 1 + S2.size + 1 + nm.size + 1 + P1.size + 1) := by omega
  have q10 : ¬ (9223372036854775807 < src.size + 1 + S1.size + 1 + S2.size + 1 + nm.size + 1 + P1.size + 1 + P2.size) := by omega
  have q11 : ¬ (9223372036854775807 < src.size + 1 + S1.size + 1 + S2.size + 1 + nm.size + 1 + P1.size + 1 + P2.size + 1) := by omega
  have q12 : ¬ (9223372036854775807 < src.size + 1 + S1.size + 1 + S2.size + 1 + nm.size + 1 + P1.size + 1 + P2.size + 1 + S3.size) := by omega
  have q13 : ¬ (9223372036854775807 < src.size + 1 + S1.size + 1 + S2.size + 1 + nm.size + 1 + P1.size + 1 + P2.size + 1 + S3.size + 1) := by omega
  have q14 : ¬ (9223372036854775807 < src.size + 1 + S1.size + 1 + S2.size + 1 + nm.size + 1 + P1.size + 1 + P2.size + 1 + S3.size + 1 + P3.size) := by omega
  clear hF hnm hkl hi hS1 hS2 hS3 hP1 hP2 hP3 z1 z2 z3 z4 z5 z6 z7 z8 z9 z10 z11 h
  go_enter Tryz.func91, Tryz.ntmps91
  go_wp2_with fail
  have hg1 := blk_new w (.cells #[.string src, .int .i64 num, .int .i64 tick, .int .i64 (kk : Int), .string person, .string item, .int .i64 value, .string text] 30)
  have hxX : Ext w (w.alloc (.cells #[.string src, .int .i64 num, .int .i64 tick, .int .i64 (kk : Int), .string person, .string item, .int .i64 value, .string text] 30)) := (Keeps.refl _ _).alloc _
  generalize w.alloc (.cells #[.string src, .int .i64 num, .int .i64 tick, .int .i64 (kk : Int), .string person, .string item, .int .i64 value, .string text] 30) = X at *
  have wsz : w.heap.size < X.heap.size := (Array.getElem?_eq_some_iff.1 hg1).1
  have d0 := blk_cell hg1 0 rfl
  have d1 := blk_cell hg1 1 rfl
  have d2 := blk_cell hg1 2 rfl
  have d3 := blk_cell hg1 3 rfl
  have d4 := blk_cell hg1 4 rfl
  have d5 := blk_cell hg1 5 rfl
  have d6 := blk_cell hg1 6 rfl
  have d7 := blk_cell hg1 7 rfl
  have HX := Lib.hid hxX
  clear hg1 hxX
  go_cut [2] (fun s2 wc => s2 = .string (src ++ ⟨#[32]⟩ ++ S1 ++ ⟨#[32]⟩ ++ S2 ++ ⟨#[32]⟩ ++ nm ++ ⟨#[32]⟩ ++ P1 ++ ⟨#[32]⟩ ++ P2 ++ ⟨#[32]⟩ ++ S3 ++ ⟨#[32]⟩ ++ P3) ∧ Ext X wc)
  case first =>
    refine wp_region_noPanic ?_
    refine wp_region_held_drew (S := fun w' => X.heap.size ≤ w'.heap.size ∧ ∀ p : Addr, p.block < X.heap.size → w'.cell? p = X.cell? p) (by kernel_rfl) ?_ (fun hHeld => ?_)
    · exact (Old.refl X).drew
    refine wpAnyH_take (i := 0) (oi := { dst := some 3, op := Go.Op.fieldAddr 30 (Go.Operand.tmp 1) 0, type := 0, pos := "ref.go:296", after := #[], guard := none }) (v := ?_) rfl (by kernel_rfl) (by kernel_rfl) (by kernel_rfl) (fun _ _ _ h => h) (Or.inl ⟨by rfl, ?_⟩) (by assumption) ?_
    rotate_left
    · intro w hSw
      (try dsimp only at hSw)
      go_simp
      all_goals (with_reducible rfl)
    try simp only [Act.put, List.setIfInBounds_toArray, List.set_cons_zero, List.set_cons_succ]
    refine wpAnyH_take (i := 1) (oi := { dst := some 4, op := Go.Op.load 9 (Go.Operand.tmp 3), type := 9, pos := "ref.go:296", after := #[{ on := 0, ground := Go.Ground.data }], guard := none }) (v := ?_) rfl (by kernel_rfl) (by kernel_rfl) (by kernel_rfl) (fun _ _ _ h => h) (Or.inl ⟨by rfl, ?_⟩) (by assumption) ?_
    rotate_left
    · intro w hSw
      (try dsimp only at hSw)
      go_simp
      all_goals (with_reducible rfl)
    try simp only [Act.put, List.setIfInBounds_toArray, List.set_cons_zero, List.set_cons_succ]
    refine wpAnyH_take (i := 2) (oi := { dst := some 5, op := Go.Op.binOp Go.BinOp.add 9 (Go.Operand.tmp 4) (Go.Operand.const (Go.Value.string { data := #[32] })) 9, type := 9, pos := "ref.go:296", after := #[{ on := 1, ground := Go.Ground.data }], guard := none }) (v := ?_) rfl (by kernel_rfl) (by kernel_rfl) (by kernel_rfl) (fun _ _ _ h => h) (Or.inl ⟨by rfl, ?_⟩) (by assumption) ?_
    rotate_left
    · intro w hSw
      (try dsimp only at hSw)
      go_simp
      all_goals (with_reducible rfl)
    try simp only [Act.put, List.setIfInBounds_toArray, List.set_cons_zero, List.set_cons_succ]
    refine wpAnyH_take (i := 3) (oi := { dst := some 6, op := Go.Op.fieldAddr 30 (Go.Operand.tmp 1) 1, type := 0, pos := "ref.go:296", after := #[], guard := none }) (v := ?_) rfl (by kernel_rfl) (by kernel_rfl) (by kernel_rfl) (fun _ _ _ h => h) (Or.inl ⟨by rfl, ?_⟩) (by assumption) ?_
    rotate_left
    · intro w hSw
      (try dsimp only at hSw)
      go_simp
      all_goals (with_reducible rfl)
    try simp only [Act.put, List.setIfInBounds_toArray, List.set_cons_zero, List.set_cons_succ]
    refine wpAnyH_take (i := 4) (oi := { dst := some 7, op := Go.Op.load 3 (Go.Operand.tmp 6), type := 3, pos := "ref.go:296", after := #[{ on := 3, ground := Go.Ground.data }], guard := none }) (v := ?_) rfl (by kernel_rfl) (by kernel_rfl) (by kernel_rfl) (fun _ _ _ h => h) (Or.inl ⟨by rfl, ?_⟩) (by assumption) ?_
    rotate_left
    · intro w hSw
      (try dsimp only at hSw)
      go_simp
      all_goals (with_reducible rfl)
    try simp only [Act.put, List.setIfInBounds_toArray, List.set_cons_zero, List.set_cons_succ]
    refine wpAnyH_take (i := 8) (oi := { dst := some 11, op := Go.Op.fieldAddr 30 (Go.Operand.tmp 1) 2, type := 0, pos := "ref.go:296", after := #[], guard := none }) (v := ?_) rfl (by kernel_rfl) (by kernel_rfl) (by kernel_rfl) (fun _ _ _ h => h) (Or.inl ⟨by rfl, ?_⟩) (by assumption) ?_
    rotate_left
    · intro w hSw
      (try dsimp only at hSw)
      go_simp
      all_goals (with_reducible rfl)
    try simp only [Act.put, List.setIfInBounds_toArray, List.set_cons_zero, List.set_cons_succ]
    refine wpAnyH_take (i := 9) (oi := { dst := some 12, op := Go.Op.load 3 (Go.Operand.tmp 11), type := 3, pos := "ref.go:296", after := #[{ on := 8, ground := Go.Ground.data }], guard := none }) (v := ?_) rfl (by kernel_rfl) (by kernel_rfl) (by kernel_rfl) (fun _ _ _ h => h) (Or.inl ⟨by rfl, ?_⟩) (by assumption) ?_
    rotate_left
    · intro w hSw
      (try dsimp only at hSw)
      go_simp
      all_goals (with_reducible rfl)
    try simp only [Act.put, List.setIfInBounds_toArray, List.set_cons_zero, List.set_cons_succ]
    refine wpAnyH_take (i := 14) (oi := { dst := some 17, op := Go.Op.fieldAddr 30 (Go.Operand.tmp 1) 3, type := 0, pos := "ref.go:296", after := #[], guard := none }) (v := ?_) rfl (by kernel_rfl) (by kernel_rfl) (by kernel_rfl) (fun _ _ _ h => h) (Or.inl ⟨by rfl, ?_⟩) (by assumption) ?_
    rotate_left
    · intro w hSw
      (try dsimp only at hSw)
      go_simp
      all_goals (with_reducible rfl)
    try simp only [Act.put, List.setIfInBounds_toArray, List.set_cons_zero, List.set_cons_succ]
    refine wpAnyH_take (i := 15) (oi := { dst := some 18, op := Go.Op.load 28 (Go.Operand.tmp 17), type := 28, pos := "ref.go:296", after := #[{ on := 14, ground := Go.Ground.data }], guard := none }) (v := ?_) rfl (by kernel_rfl) (by kernel_rfl) (by kernel_rfl) (fun _ _ _ h => h) (Or.inl ⟨by rfl, ?_⟩) (by assumption) ?_
    rotate_left
    · intro w hSw
      (try dsimp only at hSw)
      go_simp
      all_goals (with_reducible rfl)
    try simp only [Act.put, List.setIfInBounds_toArray, List.set_cons_zero, List.set_cons_succ]
    refine wpAnyH_take (i := 20) (oi := { dst := some 23, op := Go.Op.fieldAddr 30 (Go.Operand.tmp 1) 4, type := 0, pos := "ref.go:296", after := #[], guard := none }) (v := ?_) rfl (by kernel_rfl) (by kernel_rfl) (by kernel_rfl) (fun _ _ _ h => h) (Or.inl ⟨by rfl, ?_⟩) (by assumption) ?_
    rotate_left
    · intro w hSw
      (try dsimp only at hSw)
      go_simp
      all_goals (with_reducible rfl)
    try simp only [Act.put, List.setIfInBounds_toArray, List.set_cons_zero, List.set_cons_succ]
    refine wpAnyH_take (i := 21) (oi := { dst := some 24, op := Go.Op.load 9 (Go.Operand.tmp 23), type := 9, pos := "ref.go:296", after := #[{ on := 20, ground := Go.Ground.data }], guard := none }) (v := ?_) rfl (by kernel_rfl) (by kernel_rfl) (by kernel_rfl) (fun _ _ _ h => h) (Or.inl ⟨by rfl, ?_⟩) (by assumption) ?_
    rotate_left
    · intro w hSw
      (try dsimp only at hSw)
      go_simp
      all_goals (with_reducible rfl)
    try simp only [Act.put, List.setIfInBounds_toArray, List.set_cons_zero, List.set_cons_succ]
    refine wpAnyH_take (i := 25) (oi := { dst := some 28, op := Go.Op.fieldAddr 30 (Go.Operand.tmp 1) 5, type := 0, pos := "ref.go:296", after := #[], guard := none }) (v := ?_) rfl (by kernel_rfl) (by kernel_rfl) (by kernel_rfl) (fun _ _ _ h => h) (Or.inl ⟨by rfl, ?_⟩) (by assumption) ?_
    rotate_left
    · intro w hSw
      (try dsimp only at hSw)
      go_simp
      all_goals (with_reducible rfl)
    try simp only [Act.put, List.setIfInBounds_toArray, List.set_cons_zero, List.set_cons_succ]
    refine wpAnyH_take (i := 26) (oi := { dst := some 29, op := Go.Op.load 9 (Go.Operand.tmp 28), type := 9, pos := "ref.go:296", after := #[{ on := 25, ground := Go.Ground.data }], guard := none }) (v := ?_) rfl (by kernel_rfl) (by kernel_rfl) (by kernel_rfl) (fun _ _ _ h => h) (Or.inl ⟨by rfl, ?_⟩) (by assumption) ?_
    rotate_left
    · intro w hSw
      (try dsimp only at hSw)
      go_simp
      all_goals (with_reducible rfl)
    try simp only [Act.put, List.setIfInBounds_toArray, List.set_cons_zero, List.set_cons_succ]
    refine wpAnyH_take (i := 30) (oi := { dst := some 33, op := Go.Op.fieldAddr 30 (Go.Operand.tmp 1) 6, type := 0, pos := "ref.go:296", after := #[], guard := none }) (v := ?_) rfl (by kernel_rfl) (by kernel_rfl) (by kernel_rfl) (fun _ _ _ h => h) (Or.inl ⟨by rfl, ?_⟩) (by assumption) ?_
    rotate_left
    · intro w hSw
      (try dsimp only at hSw)
      go_simp
      all_goals (with_reducible rfl)
    try simp only [Act.put, List.setIfInBounds_toArray, List.set_cons_zero, List.set_cons_succ]
    refine wpAnyH_take (i := 31) (oi := { dst := some 34, op := Go.Op.load 3 (Go.Operand.tmp 33), type := 3, pos := "ref.go:296", after := #[{ on := 30, ground := Go.Ground.data }], guard := none }) (v := ?_) rfl (by kernel_rfl) (by kernel_rfl) (by kernel_rfl) (fun _ _ _ h => h) (Or.inl ⟨by rfl, ?_⟩) (by assumption) ?_
    rotate_left
    · intro w hSw
      (try dsimp only at hSw)
      go_simp
      all_goals (with_reducible rfl)
    try simp only [Act.put, List.setIfInBounds_toArray, List.set_cons_zero, List.set_cons_succ]
    refine wpAnyH_take (i := 35) (oi := { dst := some 38, op := Go.Op.fieldAddr 30 (Go.Operand.tmp 1) 7, type := 0, pos := "ref.go:296", after := #[], guard := none }) (v := ?_) rfl (by kernel_rfl) (by kernel_rfl) (by kernel_rfl) (fun _ _ _ h => h) (Or.inl ⟨by rfl, ?_⟩) (by assumption) ?_
    rotate_left
    · intro w hSw
      (try dsimp only at hSw)
      go_simp
      all_goals (with_reducible rfl)
    try simp only [Act.put, List.setIfInBounds_toArray, List.set_cons_zero, List.set_cons_succ]
    refine wpAnyH_take (i := 36) (oi := { dst := some 39, op := Go.Op.load 9 (Go.Operand.tmp 38), type := 9, pos := "ref.go:296", after := #[{ on := 35, ground := Go.Ground.data }], guard := none }) (v := ?_) rfl (by kernel_rfl) (by kernel_rfl) (by kernel_rfl) (fun _ _ _ h => h) (Or.inl ⟨by rfl, ?_⟩) (by assumption) ?_
    rotate_left
    · intro w hSw
      (try dsimp only at hSw)
      go_simp
      all_goals (with_reducible rfl)
    try simp only [Act.put, List.setIfInBounds_toArray, List.set_cons_zero, List.set_cons_succ]
    refine wpAnyH_ready (rs := [5]) (by kernel_rfl) (by simp) ?_
    refine AllReadyH.cons (o := { dst := some 8, op := Go.Op.call { callee := Go.Callee.value (Go.Operand.func 127), args := #[Go.Operand.tmp 7], argTypes := #[3] }, type := 9, pos := "ref.go:296", after := #[{ on := 4, ground := Go.Ground.data }], guard := none }) rfl (fun K hK => ?_) AllReadyH.nil
    go_simp
    refine (C1.out _).mono ?_
    rintro _ w4 ⟨rfl, hx4⟩
    have hy : Ext X w4 := Keeps.trans (by repeat (first | assumption | with_reducible exact Keeps.refl _ _ | with_reducible refine Keeps.drew ?_ | with_reducible refine Keeps.alloc ?_ _)) hx4
    clear hx4
    refine hK.out _ _ ?_ (fun hHeld => ?_)
    · exact Old.of_ext hy
    clear hK K
    try simp only [Act.put, List.setIfInBounds_toArray, List.set_cons_zero, List.set_cons_succ]
    refine wpAnyH_take (i := 6) (oi := { dst := some 9, op := Go.Op.binOp Go.BinOp.add 9 (Go.Operand.tmp 5) (Go.Operand.tmp 8) 9, type := 9, pos := "ref.go:296", after := #[{ on := 2, ground := Go.Ground.data }, { on := 5, ground := Go.Ground.data }], guard := none }) (v := ?_) rfl (by kernel_rfl) (by kernel_rfl) (by kernel_rfl) (fun _ _ _ h => h) (Or.inl ⟨by rfl, ?_⟩) (by assumption) ?_
    rotate_left
    · intro w hSw
      (try dsimp only at hSw)
      go_simp
      all_goals (with_reducible rfl)
    try simp only [Act.put, List.setIfInBounds_toArray, List.set_cons_zero, List.set_cons_succ]
    refine wpAnyH_take (i := 7) (oi := { dst := some 10, op := Go.Op.binOp Go.BinOp.add 9 (Go.Operand.tmp 9) (Go.Operand.const (Go.Value.string { data := #[32] })) 9, type := 9, pos := "ref.go:296", after := #[{ on := 6, ground := Go.Ground.data }], guard := none }) (v := ?_) rfl (by kernel_rfl) (by kernel_rfl) (by kernel_rfl) (fun _ _ _ h => h) (Or.inl ⟨by rfl, ?_⟩) (by assumption) ?_
    rotate_left
    · intro w hSw
      (try dsimp only at hSw)
      go_simp
      all_goals (with_reducible rfl)
    try simp only [Act.put, List.setIfInBounds_toArray, List.set_cons_zero, List.set_cons_succ]
    refine wpAnyH_ready (rs := [10]) (by kernel_rfl) (by simp) ?_
    refine AllReadyH.cons (o := { dst := some 13, op := Go.Op.call { callee := Go.Callee.value (Go.Operand.func 127), args := #[Go.Operand.tmp 12], argTypes := #[3] }, type := 9, pos := "ref.go:296", after := #[{ on := 9, ground := Go.Ground.data }, { on := 5, ground := Go.Ground.chain }], guard := none }) rfl (fun K hK => ?_) AllReadyH.nil
    go_simp
    refine (C2.out _).mono ?_
    rintro _ w5 ⟨rfl, hx5⟩
    have hz : Ext X w5 := Keeps.trans (by repeat (first | assumption | with_reducible exact Keeps.refl _ _ | with_reducible refine Keeps.drew ?_ | with_reducible refine Keeps.alloc ?_ _)) hx5
    clear hx5
    refine hK.out _ _ ?_ (fun hHeld => ?_)
    · exact Old.of_ext hz
    clear hK K
    try simp only [Act.put, List.setIfInBounds_toArray, List.set_cons_zero, List.set_cons_succ]
    refine wpAnyH_take (i := 11) (oi := { dst := some 14, op := Go.Op.binOp Go.BinOp.add 9 (Go.Operand.tmp 10) (Go.Operand.tmp 13) 9, type := 9, pos := "ref.go:296", after := #[{ on := 7, ground := Go.Ground.data }, { on := 10, ground := Go.Ground.data }], guard := none }) (v := ?_) rfl (by kernel_rfl) (by kernel_rfl) (by kernel_rfl) (fun _ _ _ h => h) (Or.inl ⟨by rfl, ?_⟩) (by assumption) ?_
    rotate_left
    · intro w hSw
      (try dsimp only at hSw)
      go_simp
      all_goals (with_reducible rfl)
    try simp only [Act.put, List.setIfInBounds_toArray, List.set_cons_zero, List.set_cons_succ]
    refine wpAnyH_take (i := 12) (oi := { dst := some 15, op := Go.Op.binOp Go.BinOp.add 9 (Go.Operand.tmp 14) (Go.Operand.const (Go.Value.string { data := #[32] })) 9, type := 9, pos := "ref.go:296", after := #[{ on := 11, ground := Go.Ground.data }], guard := none }) (v := ?_) rfl (by kernel_rfl) (by kernel_rfl) (by kernel_rfl) (fun _ _ _ h => h) (Or.inl ⟨by rfl, ?_⟩) (by assumption) ?_
    rotate_left
    · intro w hSw
      (try dsimp only at hSw)
      go_simp
      all_goals (with_reducible rfl)
    try simp only [Act.put, List.setIfInBounds_toArray, List.set_cons_zero, List.set_cons_succ]
    refine wpAnyH_ready (rs := [13]) (by kernel_rfl) (by simp) ?_
    refine AllReadyH.cons (o := { dst := some 16, op := Go.Op.call { callee := Go.Callee.value (Go.Operand.func 128), args := #[], argTypes := #[] }, type := 34, pos := "ref.go:296", after := #[{ on := 10, ground := Go.Ground.chain }], guard := none }) rfl (fun K hK => ?_) AllReadyH.nil
    go_simp
    refine (ref_Kinds _).mono ?_
    rintro _ w6 ⟨gK, rfl, hgK, _, hx6⟩
    have hu : Ext X w6 := Keeps.trans (by repeat (first | assumption | with_reducible exact Keeps.refl _ _ | with_reducible refine Keeps.drew ?_ | with_reducible refine Keeps.alloc ?_ _)) hx6
    have cK := blk_cell hgK kk Hnm.out
    have gKs := (Array.getElem?_eq_some_iff.1 hgK).1
    have HgK := Lib.hid hgK
    clear hx6 hgK
    refine hK.out _ _ ?_ (fun hHeld => ?_)
    · exact Old.of_ext hu
    clear hK K
    try simp only [Act.put, List.setIfInBounds_toArray, List.set_cons_zero, List.set_cons_succ]
    refine wpAnyH_strong (S' := fun w' => (X.heap.size ≤ w'.heap.size ∧ ∀ p : Addr, p.block < X.heap.size → w'.cell? p = X.cell? p) ∧ w'.cell? ⟨gK, kk, none⟩ = some (.string nm)) (fun _ h => h.1) _ _ _ _ ?_
    have hHeld2 : (X.heap.size ≤ w6.heap.size ∧ ∀ p : Addr, p.block < X.heap.size → w6.cell? p = X.cell? p) ∧ w6.cell? ⟨gK, kk, none⟩ = some (.string nm) := ⟨Old.of_ext hu, cK⟩
    refine wpAnyH_take (i := 16) (oi := { dst := some 19, op := Go.Op.indexAddr 34 (Go.Operand.tmp 16) (Go.Operand.tmp 18), type := 0, pos := "ref.go:296", after := #[{ on := 13, ground := Go.Ground.data }, { on := 15, ground := Go.Ground.data }], guard := none }) (v := ?_) rfl (by kernel_rfl) (by kernel_rfl) (by kernel_rfl) (fun _ _ _ h => h) (Or.inl ⟨by rfl, ?_⟩) (by assumption) ?_
    rotate_left
    · intro w hSw
      (try dsimp only at hSw)
      go_simp
      all_goals (with_reducible rfl)
    try simp only [Act.put, List.setIfInBounds_toArray, List.set_cons_zero, List.set_cons_succ]
    refine wpAnyH_take (i := 17) (oi := { dst := some 20, op := Go.Op.load 9 (Go.Operand.tmp 19), type := 9, pos := "ref.go:296", after := #[{ on := 16, ground := Go.Ground.data }], guard := none }) (v := ?_) rfl (by kernel_rfl) (by kernel_rfl) (by kernel_rfl) (fun _ _ _ h => h) (Or.inl ⟨by rfl, ?_⟩) (by assumption) ?_
    rotate_left
    · intro w hSw
      (try dsimp only at hSw)
      go_simp
      all_goals (with_reducible rfl)
    try simp only [Act.put, List.setIfInBounds_toArray, List.set_cons_zero, List.set_cons_succ]
    refine wpAnyH_take (i := 18) (oi := { dst := some 21, op := Go.Op.binOp Go.BinOp.add 9 (Go.Operand.tmp 15) (Go.Operand.tmp 20) 9, type := 9, pos := "ref.go:296", after := #[{ on := 12, ground := Go.Ground.data }, { on := 17, ground := Go.Ground.data }], guard := none }) (v := ?_) rfl (by kernel_rfl) (by kernel_rfl) (by kernel_rfl) (fun _ _ _ h => h) (Or.inl ⟨by rfl, ?_⟩) (by assumption) ?_
    rotate_left
    · intro w hSw
      (try dsimp only at hSw)
      go_simp
      all_goals (with_reducible rfl)
    try simp only [Act.put, List.setIfInBounds_toArray, List.set_cons_zero, List.set_cons_succ]
    refine wpAnyH_take (i := 19) (oi := { dst := some 22, op := Go.Op.binOp Go.BinOp.add 9 (Go.Operand.tmp 21) (Go.Operand.const (Go.Value.string { data := #[32] })) 9, type := 9, pos := "ref.go:296", after := #[{ on := 18, ground := Go.Ground.data }], guard := none }) (v := ?_) rfl (by kernel_rfl) (by kernel_rfl) (by kernel_rfl) (fun _ _ _ h => h) (Or.inl ⟨by rfl, ?_⟩) (by assumption) ?_
    rotate_left
    · intro w hSw
      (try dsimp only at hSw)
      go_simp
      all_goals (with_reducible rfl)
    try simp only [Act.put, List.setIfInBounds_toArray, List.set_cons_zero, List.set_cons_succ]
    refine wpAnyH_ready (rs := [22]) (by kernel_rfl) (by simp) ?_
    refine AllReadyH.cons (o := { dst := some 25, op := Go.Op.call { callee := Go.Callee.value (Go.Operand.func 129), args := #[Go.Operand.tmp 24], argTypes := #[9] }, type := 9, pos := "ref.go:296", after := #[{ on := 21, ground := Go.Ground.data }, { on := 13, ground := Go.Ground.chain }], guard := none }) rfl (fun K hK => ?_) AllReadyH.nil
    go_simp
    refine (C4.out _).mono ?_
    rintro _ _ ⟨rfl, rfl⟩
    refine hK.out _ _ ?_ (fun hHeld => ?_)
    · exact hHeld2
    clear hK K
    try simp only [Act.put, List.setIfInBounds_toArray, List.set_cons_zero, List.set_cons_succ]
    refine wpAnyH_take (i := 23) (oi := { dst := some 26, op := Go.Op.binOp Go.BinOp.add 9 (Go.Operand.tmp 22) (Go.Operand.tmp 25) 9, type := 9, pos := "ref.go:296", after := #[{ on := 19, ground := Go.Ground.data }, { on := 22, ground := Go.Ground.data }], guard := none }) (v := ?_) rfl (by kernel_rfl) (by kernel_rfl) (by kernel_rfl) (fun _ _ _ h => h) (Or.inl ⟨by rfl, ?_⟩) (by assumption) ?_
    rotate_left
    · intro w hSw
      (try dsimp only at hSw)
      go_simp
      all_goals (with_reducible rfl)
    try simp only [Act.put, List.setIfInBounds_toArray, List.set_cons_zero, List.set_cons_succ]
    refine wpAnyH_take (i := 24) (oi := { dst := some 27, op := Go.Op.binOp Go.BinOp.add 9 (Go.Operand.tmp 26) (Go.Operand.const (Go.Value.string { data := #[32] })) 9, type := 9, pos := "ref.go:296", after := #[{ on := 23, ground := Go.Ground.data }], guard := none }) (v := ?_) rfl (by kernel_rfl) (by kernel_rfl) (by kernel_rfl) (fun _ _ _ h => h) (Or.inl ⟨by rfl, ?_⟩) (by assumption) ?_
    rotate_left
    · intro w hSw
      (try dsimp only at hSw)
      go_simp
      all_goals (with_reducible rfl)
    try simp only [Act.put, List.setIfInBounds_toArray, List.set_cons_zero, List.set_cons_succ]
    refine wpAnyH_ready (rs := [27]) (by kernel_rfl) (by simp) ?_
    refine AllReadyH.cons (o := { dst := some 30, op := Go.Op.call { callee := Go.Callee.value (Go.Operand.func 129), args := #[Go.Operand.tmp 29], argTypes := #[9] }, type := 9, pos := "ref.go:296", after := #[{ on := 26, ground := Go.Ground.data }, { on := 22, ground := Go.Ground.chain }], guard := none }) rfl (fun K hK => ?_) AllReadyH.nil
    go_simp
    refine (C5.out _).mono ?_
    rintro _ _ ⟨rfl, rfl⟩
    refine hK.out _ _ ?_ (fun hHeld => ?_)
    · exact hHeld2
    clear hK K
    try simp only [Act.put, List.setIfInBounds_toArray, List.set_cons_zero, List.set_cons_succ]
    refine wpAnyH_take (i := 28) (oi := { dst := some 31, op := Go.Op.binOp Go.BinOp.add 9 (Go.Operand.tmp 27) (Go.Operand.tmp 30) 9, type := 9, pos := "ref.go:296", after := #[{ on := 24, ground := Go.Ground.data }, { on := 27, ground := Go.Ground.data }], guard := none }) (v := ?_) rfl (by kernel_rfl) (by kernel_rfl) (by kernel_rfl) (fun _ _ _ h => h) (Or.inl ⟨by rfl, ?_⟩) (by assumption) ?_
    rotate_left
    · intro w hSw
      (try dsimp only at hSw)
      go_simp
      all_goals (with_reducible rfl)
    try simp only [Act.put, List.setIfInBounds_toArray, List.set_cons_zero, List.set_cons_succ]
    refine wpAnyH_take (i := 29) (oi := { dst := some 32, op := Go.Op.binOp Go.BinOp.add 9 (Go.Operand.tmp 31) (Go.Operand.const (Go.Value.string { data := #[32] })) 9, type := 9, pos := "ref.go:296", after := #[{ on := 28, ground := Go.Ground.data }], guard := none }) (v := ?_) rfl (by kernel_rfl) (by kernel_rfl) (by kernel_rfl) (fun _ _ _ h => h) (Or.inl ⟨by rfl, ?_⟩) (by assumption) ?_
    rotate_left
    · intro w hSw
      (try dsimp only at hSw)
      go_simp
      all_goals (with_reducible rfl)
    try simp only [Act.put, List.setIfInBounds_toArray, List.set_cons_zero, List.set_cons_succ]
    refine wpAnyH_ready (rs := [32]) (by kernel_rfl) (by simp) ?_
    refine AllReadyH.cons (o := { dst := some 35, op := Go.Op.call { callee := Go.Callee.value (Go.Operand.func 127), args := #[Go.Operand.tmp 34], argTypes := #[3] }, type := 9, pos := "ref.go:296", after := #[{ on := 31, ground := Go.Ground.data }, { on := 27, ground := Go.Ground.chain }], guard := none }) rfl (fun K hK => ?_) AllReadyH.nil
    go_simp
    refine (C3.out _).mono ?_
    rintro _ w7 ⟨rfl, hx7⟩
    have hv7 : Ext X w7 := Keeps.trans (by repeat (first | assumption | with_reducible exact Keeps.refl _ _ | with_reducible refine Keeps.drew ?_ | with_reducible refine Keeps.alloc ?_ _)) hx7
    have hHeld7 : (X.heap.size ≤ w7.heap.size ∧ ∀ p : Addr, p.block < X.heap.size → w7.cell? p = X.cell? p) ∧ w7.cell? ⟨gK, kk, none⟩ = some (.string nm) := ⟨Old.of_ext hv7, (hx7.cell (p := ⟨gK, kk, none⟩) gKs trivial).trans cK⟩
    clear hx7
    refine hK.out _ _ ?_ (fun hHeld => ?_)
    · exact hHeld7
    clear hK K
    try simp only [Act.put, List.setIfInBounds_toArray, List.set_cons_zero, List.set_cons_succ]
    refine wpAnyH_take (i := 33) (oi := { dst := some 36, op := Go.Op.binOp Go.BinOp.add 9 (Go.Operand.tmp 32) (Go.Operand.tmp 35) 9, type := 9, pos := "ref.go:296", after := #[{ on := 29, ground := Go.Ground.data }, { on := 32, ground := Go.Ground.data }], guard := none }) (v := ?_) rfl (by kernel_rfl) (by kernel_rfl) (by kernel_rfl) (fun _ _ _ h => h) (Or.inl ⟨by rfl, ?_⟩) (by assumption) ?_
    rotate_left
    · intro w hSw
      (try dsimp only at hSw)
      go_simp
      all_goals (with_reducible rfl)
    try simp only [Act.put, List.setIfInBounds_toArray, List.set_cons_zero, List.set_cons_succ]
    refine wpAnyH_take (i := 34) (oi := { dst := some 37, op := Go.Op.binOp Go.BinOp.add 9 (Go.Operand.tmp 36) (Go.Operand.const (Go.Value.string { data := #[32] })) 9, type := 9, pos := "ref.go:296", after := #[{ on := 33, ground := Go.Ground.data }], guard := none }) (v := ?_) rfl (by kernel_rfl) (by kernel_rfl) (by kernel_rfl) (fun _ _ _ h => h) (Or.inl ⟨by rfl, ?_⟩) (by assumption) ?_
    rotate_left
    · intro w hSw
      (try dsimp only at hSw)
      go_simp
      all_goals (with_reducible rfl)
    try simp only [Act.put, List.setIfInBounds_toArray, List.set_cons_zero, List.set_cons_succ]
    refine wpAnyH_ready (rs := [37]) (by kernel_rfl) (by simp) ?_
    refine AllReadyH.cons (o := { dst := some 40, op := Go.Op.call { callee := Go.Callee.value (Go.Operand.func 129), args := #[Go.Operand.tmp 39], argTypes := #[9] }, type := 9, pos := "ref.go:296", after := #[{ on := 36, ground := Go.Ground.data }, { on := 32, ground := Go.Ground.chain }], guard := none }) rfl (fun K hK => ?_) AllReadyH.nil
    go_simp
    refine (C6.out _).mono ?_
    rintro _ _ ⟨rfl, rfl⟩
    refine hK.out _ _ ?_ (fun hHeld => ?_)
    · exact hHeld7
    clear hK K
    try simp only [Act.put, List.setIfInBounds_toArray, List.set_cons_zero, List.set_cons_succ]
    refine wpAnyH_take (i := 38) (oi := { dst := some 41, op := Go.Op.binOp Go.BinOp.add 9 (Go.Operand.tmp 37) (Go.Operand.tmp 40) 9, type := 9, pos := "ref.go:296", after := #[{ on := 34, ground := Go.Ground.data }, { on := 37, ground := Go.Ground.data }], guard := none }) (v := ?_) rfl (by kernel_rfl) (by kernel_rfl) (by kernel_rfl) (fun _ _ _ h => h) (Or.inl ⟨by rfl, ?_⟩) (by assumption) ?_
    rotate_left
    · intro w hSw
      (try dsimp only at hSw)
      go_simp
      all_goals (with_reducible rfl)
    try simp only [Act.put, List.setIfInBounds_toArray, List.set_cons_zero, List.set_cons_succ]
    refine wpAnyH_take (i := 39) (oi := { dst := some 2, op := Go.Op.assign (Go.Operand.tmp 41), type := 9, pos := "ref.go:296", after := #[{ on := 38, ground := Go.Ground.data }, { on := 37, ground := Go.Ground.chain }, { on := 0, ground := Go.Ground.phase }, { on := 1, ground := Go.Ground.phase }, { on := 2, ground := Go.Ground.phase }, { on := 3, ground := Go.Ground.phase }, { on := 4, ground := Go.Ground.phase }, { on := 5, ground := Go.Ground.phase }, { on := 6, ground := Go.Ground.phase }, { on := 7, ground := Go.Ground.phase }, { on := 8, ground := Go.Ground.phase }, { on := 9, ground := Go.Ground.phase }, { on := 10, ground := Go.Ground.phase }, { on := 11, ground := Go.Ground.phase }, { on := 12, ground := Go.Ground.phase }, { on := 13, ground := Go.Ground.phase }, { on := 14, ground := Go.Ground.phase }, { on := 15, ground := Go.Ground.phase }, { on := 16, ground := Go.Ground.phase }, { on := 17, ground := Go.Ground.phase }, { on := 18, ground := Go.Ground.phase }, { on := 19, ground := Go.Ground.phase }, { on := 20, ground := Go.Ground.phase }, { on := 21, ground := Go.Ground.phase }, { on := 22, ground := Go.Ground.phase }, { on := 23, ground := Go.Ground.phase }, { on := 24, ground := Go.Ground.phase }, { on := 25, ground := Go.Ground.phase }, { on := 26, ground := Go.Ground.phase }, { on := 27, ground := Go.Ground.phase }, { on := 28, ground := Go.Ground.phase }, { on := 29, ground := Go.Ground.phase }, { on := 30, ground := Go.Ground.phase }, { on := 31, ground := Go.Ground.phase }, { on := 32, ground := Go.Ground.phase }, { on := 33, ground := Go.Ground.phase }, { on := 34, ground := Go.Ground.phase }, { on := 35, ground := Go.Ground.phase }, { on := 36, ground := Go.Ground.phase }, { on := 37, ground := Go.Ground.phase }, { on := 38, ground := Go.Ground.phase }], guard := none }) (v := ?_) rfl (by kernel_rfl) (by kernel_rfl) (by kernel_rfl) (fun _ _ _ h => h) (Or.inl ⟨by rfl, ?_⟩) (by assumption) ?_
    rotate_left
    · intro w hSw
      (try dsimp only at hSw)
      go_simp
      all_goals (with_reducible rfl)
    try simp only [Act.put, List.setIfInBounds_toArray, List.set_cons_zero, List.set_cons_succ]
    refine wpAnyH_done (by kernel_rfl) ?_ _
    refine NoPanic.normal ?_
    go_wp2_with fail
    go_meet
    exact ⟨rfl, hv7⟩
  case rest =>
    obtain ⟨hs2, hxc⟩ := hcut
    subst hs2
    go_wp2_with fail
    go_ret
    refine ⟨?_, HX.out.trans hxc⟩
    rw [cat_join]
    unfold fmtE
    rw [Hw.out]
    obtain ⟨a1, a2, a3, a4, a5⟩ := Hd.out
    obtain ⟨b1, b2, b3⟩ := HP.out
    simp only [List.map_cons, List.map_nil, a1, a2, a3, a4, a5, ← b1, ← b2, ← b3]
    rfl
theorem ref_Format (e : Ev) (w : World) (h : mayE e = true) :
    Calls Tryz.prog 91 #[.agg #[.string e.src, .int .i64 e.num, .int .i64 e.tick, .int .i64 e.kind, .string e.person, .string e.item, .int .i64 e.value, .string e.text]] w fun r w' => r = .returned (.string (fmtE e)) ∧ Ext w w' := by
  have hF := mayF h
  obtain ⟨src, num, tick, kind, person, item, value, text⟩ := e
  obtain ⟨kk, rfl⟩ : ∃ kk : Nat, kind = kk := ⟨kind.toNat, by have : 0 ≤ kind := hF.kind0; omega⟩
  exact ref_Format' src person item text num tick value kk w h
end Go.Proofs.YtpkkkhgmkndpdaaGreatDoor
