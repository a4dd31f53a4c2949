/-
  What is proved here: events, and what they come to, as plain functions; texts parted at a sign; how an event lies in memory. No condition.
  event.Name and the document's Name return nameB of any text, and leave the world as it was. Condition: the text is no longer than a text can be.
  the document's functions on texts (In, place, Maker, Parts, Tags, Label) return what the plain functions say. Conditions: texts of at most a million bytes.
-/
import Derived.Test.YtpkkkhgmkndpdaaGreatDoorBase
import Derived.Lib.Split
import Derived.Lib.SplitLaws
import Derived.Lib.IndexBytes
import Derived.Test.YtpkkkhgmkndpdaaGreatDoorProg
import Derived.Deep.QuietTactic
import Derived.BigQuiet
import Derived.Deep.DrawnRows
namespace Go.Proofs.YtpkkkhgmkndpdaaGreatDoor
open Go Go.RowKit

/-! ### texts parted at a sign -/
def bts (l : List UInt8) : ByteArray := ⟨l.toArray⟩
theorem bts_data (l : List UInt8) : (bts l).data.toList = l := by simp [bts]
theorem bts_of (s : ByteArray) : bts s.data.toList = s := by cases s; simp [bts]
theorem bts_size (l : List UInt8) : (bts l).size = l.length := by show l.toArray.size = _; simp
theorem bts_inj {a b : List UInt8} (h : bts a = bts b) : a = b := by rw [← bts_data a, ← bts_data b, h]
def aheadL (c : UInt8) (l : List UInt8) : List UInt8 := l.takeWhile (· != c)
def behindL (c : UInt8) (l : List UInt8) : List UInt8 := (l.dropWhile (· != c)).drop 1
def hasL (c : UInt8) (l : List UInt8) : Bool := l.any (· == c)
def partsL (c : UInt8) : List UInt8 → List (List UInt8)
  | [] => [[]]
  | b :: l => if b == c then [] :: partsL c l else match partsL c l with
    | [] => [[b]]
    | p :: ps => (b :: p) :: ps
def freeL (c : UInt8) (l : List UInt8) : Prop := ∀ x ∈ l, x ≠ c
theorem partsL_none {c : UInt8} : ∀ {l : List UInt8}, freeL c l → partsL c l = [l]
  | [], _ => rfl
  | b :: l, h => by
    have hb : (b == c) = false := by simpa using h b (by simp)
    rw [partsL, partsL_none (fun x hx => h x (by simp [hx])), hb]; rfl
theorem partsL_hit {c : UInt8} {r : List UInt8} : ∀ {a : List UInt8}, freeL c a → partsL c (a ++ c :: r) = a :: partsL c r
  | [], _ => by simp [partsL]
  | b :: l, h => by
    have hb : (b == c) = false := by simpa using h b (by simp)
    rw [List.cons_append, partsL, partsL_hit (a := l) (fun x hx => h x (by simp [hx])), hb]; rfl
theorem cut_none {c : UInt8} : ∀ {l : List UInt8}, freeL c l → aheadL c l = l ∧ behindL c l = [] ∧ hasL c l = false
  | [], _ => ⟨rfl, rfl, rfl⟩
  | b :: l, h => by
    have hb : (b != c) = true := by simpa using h b (by simp)
    have hb' : (b == c) = false := by simpa using h b (by simp)
    obtain ⟨h1, h2, h3⟩ := cut_none (l := l) (fun x hx => h x (by simp [hx]))
    unfold aheadL behindL hasL at *
    refine ⟨?_, ?_, ?_⟩
    · rw [List.takeWhile_cons, if_pos hb, h1]
    · rw [List.dropWhile_cons, if_pos hb, h2]
    · rw [List.any_cons, h3, hb']; rfl
theorem cut_hit {c : UInt8} {r : List UInt8} : ∀ {a : List UInt8}, freeL c a → aheadL c (a ++ c :: r) = a ∧ behindL c (a ++ c :: r) = r ∧ hasL c (a ++ c :: r) = true
  | [], _ => by simp [aheadL, behindL, hasL]
  | b :: l, h => by
    have hb : (b != c) = true := by simpa using h b (by simp)
    obtain ⟨h1, h2, h3⟩ := cut_hit (a := l) (r := r) (fun x hx => h x (by simp [hx]))
    unfold aheadL behindL hasL at *
    rw [List.cons_append]
    refine ⟨?_, ?_, ?_⟩
    · rw [List.takeWhile_cons, if_pos hb, h1]
    · rw [List.dropWhile_cons, if_pos hb, h2]
    · rw [List.any_cons, h3]; simp
/-- A text without the sign, or parted at its first place. -/
theorem cut_cases (c : UInt8) (l : List UInt8) : freeL c l ∨ ∃ a r, freeL c a ∧ l = a ++ c :: r := by
  induction l with
  | nil => exact .inl (fun _ h => by simp at h)
  | cons b l ih =>
    by_cases hb : b = c
    · subst hb; exact .inr ⟨[], l, fun _ h => by simp at h, rfl⟩
    · rcases ih with h | ⟨a, r, ha, rfl⟩
      · refine .inl (fun x hx => ?_)
        rcases List.mem_cons.1 hx with rfl | hx
        · exact hb
        · exact h x hx
      · refine .inr ⟨b :: a, r, fun x hx => ?_, rfl⟩
        rcases List.mem_cons.1 hx with rfl | hx
        · exact hb
        · exact ha x hx
theorem parts_ne (c : UInt8) (l : List UInt8) : partsL c l ≠ [] := by
  rcases cut_cases c l with h | ⟨a, r, h, rfl⟩
  · rw [partsL_none h]; simp
  · rw [partsL_hit h]; simp

/-! ### as the library has it -/
theorem occ_one (c : UInt8) (l : List UInt8) (i : Nat) : Lib.occAt l [c] i = (l[i]? == some c) := by
  unfold Lib.occAt
  cases h : l[i]? with
  | none =>
    have : l.drop i = [] := List.drop_eq_nil_of_le (by simpa using h)
    rw [this]; rfl
  | some x =>
    have hi := (List.getElem?_eq_some_iff.1 h).1
    rw [List.drop_eq_getElem_cons hi, (List.getElem?_eq_some_iff.1 h).2]
    simp [List.isPrefixOf]
    rw [Bool.eq_iff_iff]; simp; exact eq_comm
theorem index_none {c : UInt8} {l : List UInt8} (h : freeL c l) : Lib.index l [c] = -1 := by
  rcases Lib.index_spec l [c] with ⟨h1, _⟩ | ⟨i, _, _, h3, _⟩
  · exact h1
  · rw [occ_one] at h3
    have := beq_iff_eq.1 h3
    exact absurd rfl (h c (List.mem_of_getElem? this))
theorem index_hit {c : UInt8} {a r : List UInt8} (h : freeL c a) : Lib.index (a ++ c :: r) [c] = a.length := by
  refine Lib.index_first (by simp) ?_ (fun j hj => ?_)
  · rw [occ_one]; simp
  · rw [occ_one, List.getElem?_append_left hj, List.getElem?_eq_getElem hj]
    have := h a[j] (List.getElem_mem hj)
    simpa using this
theorem lib_cut (c : UInt8) (l : List UInt8) : Lib.cut l [c] = (aheadL c l, behindL c l, hasL c l) := by
  rcases cut_cases c l with h | ⟨a, r, h, rfl⟩
  · obtain ⟨h1, h2, h3⟩ := cut_none h
    unfold Lib.cut
    rw [index_none h, if_neg (by decide), h1, h2, h3]
  · obtain ⟨h1, h2, h3⟩ := cut_hit (r := r) h
    unfold Lib.cut
    rw [index_hit h, if_pos (by omega), h1, h2, h3]
    simp
theorem lib_split (c : UInt8) : ∀ (n : Nat) (s : ByteArray), s.size ≤ n → Lib.splitB (bts [c]) 0 (Lib.countB s (bts [c])) s = (partsL c s.data.toList).map bts := by
  intro n
  induction n with
  | zero =>
    intro s hs
    have h0 : s.data.toList = [] := List.eq_nil_of_length_eq_zero (by rw [Array.length_toList]; exact Nat.le_zero.1 hs)
    have hi : Lib.indexB s (bts [c]) = -1 := by
      show Lib.index s.data.toList (bts [c]).data.toList = -1
      rw [bts_data]; exact index_none (by rw [h0]; exact fun _ h => by simp at h)
    rw [Lib.countB_miss _ _ hi, Lib.splitB_zero, h0]
    show [s] = [bts []]
    rw [← h0, bts_of]
  | succ n ih =>
    intro s hs
    rcases cut_cases c s.data.toList with h | ⟨a, r, h, hl⟩
    · have hi : Lib.indexB s (bts [c]) = -1 := by
        show Lib.index s.data.toList (bts [c]).data.toList = -1
        rw [bts_data]; exact index_none h
      rw [Lib.countB_miss _ _ hi, Lib.splitB_zero, partsL_none h]
      show [s] = [bts _]
      rw [bts_of]
    · have hi : Lib.indexB s (bts [c]) = a.length := by
        show Lib.index s.data.toList (bts [c]).data.toList = a.length
        rw [bts_data, hl]; exact index_hit h
      have hsz : s.size = a.length + 1 + r.length := by
        have : s.size = s.data.toList.length := by simp
        rw [this, hl]; simp; omega
      have hr : s.extract (a.length + (bts [c]).size) s.size = bts r := by
        apply ByteArray.ext
        rw [← Array.toList_inj, Lib.extract_to_end, bts_data, hl, bts_size]
        simp
      have ha : s.extract 0 (a.length + 0) = bts a := by
        apply ByteArray.ext
        rw [← Array.toList_inj, Lib.extract_from_zero, bts_data, hl]
        simp
      rw [Lib.countB_hit s (bts [c]) a.length (by rw [bts_size]; simp) hi, Nat.add_comm 1, Lib.splitB_hit _ _ _ _ _ hi, hr, ha, ih (bts r) (by rw [bts_size]; omega), hl, partsL_hit h, bts_data]
      rfl
theorem lib_count (c : UInt8) (s : ByteArray) : Lib.countB s (bts [c]) + 1 = (partsL c s.data.toList).length := by
  have h1 := lib_split c s.size s (Nat.le_refl _)
  have h2 := Lib.splitB_all (bts [c]) (by rw [bts_size]; simp) 0 _ s rfl
  rw [h1, List.length_map] at h2
  exact h2.symm

/-! ### what a listing's text is -/
def makerB (s : ByteArray) : ByteArray := bts (aheadL 59 s.data.toList)
def restB (s : ByteArray) : ByteArray := bts (behindL 59 s.data.toList)
def semiB (s : ByteArray) : Bool := hasL 59 s.data.toList
def tagsB (s : ByteArray) : List ByteArray := if (behindL 59 s.data.toList).isEmpty then [] else (partsL 44 (behindL 59 s.data.toList)).map bts
/-- A tag at a place is right: a name, behind the one ahead of it. -/
def ltB (a b : ByteArray) : Bool := Op.bytesLess a.toList b.toList
def tagOk (l : List ByteArray) (i : Nat) : Bool := match l[i]? with | some a => nameB a && (decide (i = 0) || ltB (l.getD (i - 1) ⟨#[]⟩) a) | none => true
def tagsOk (l : List ByteArray) : Bool := (List.range l.length).all (tagOk l)
def labelB (s : ByteArray) : Bool := semiB s && nameB (makerB s) && decide ((tagsB s).length ≤ 8) && tagsOk (tagsB s)

/-! ### events -/
structure Ev where
  src : ByteArray
  num : Int
  tick : Int
  kind : Int
  person : ByteArray
  item : ByteArray
  value : Int
  text : ByteArray
def evL (e : Ev) : List Value := [.string e.src, .int .i64 e.num, .int .i64 e.tick, .int .i64 e.kind, .string e.person, .string e.item, .int .i64 e.value, .string e.text]
def evR : Rep Ev where
  size := 8
  rep _ _ e xs := xs = evL e
  len h := by subst h; rfl
  one h u hu := by
    subst h
    simp [evL] at hu
    rcases hu with rfl | rfl | rfl | rfl | rfl | rfl | rfl | rfl <;> rfl
  keep _ h := h
  mono _ h := h
theorem evR_flat : evR.flat := fun _ _ _ _ _ _ h => h
section
variable {ok : Nat → Prop} {w w' : World} {A : Option Addr} {n : Nat}
theorem Sl.ev {l : List Ev} (h : Sl evR ok w A n l) {k : Nat} (hk : k < n) : ∃ (b o : Nat) (e : Ev), A = some ⟨b, o, none⟩ ∧ b < w.heap.size ∧ ok b ∧ l[k]? = some e ∧
    w.cell? ⟨b, o + k * 8, none⟩ = some (.string e.src) ∧ w.cell? ⟨b, o + k * 8 + 1, none⟩ = some (.int .i64 e.num) ∧ w.cell? ⟨b, o + k * 8 + 2, none⟩ = some (.int .i64 e.tick) ∧
    w.cell? ⟨b, o + k * 8 + 3, none⟩ = some (.int .i64 e.kind) ∧ w.cell? ⟨b, o + k * 8 + 4, none⟩ = some (.string e.person) ∧ w.cell? ⟨b, o + k * 8 + 5, none⟩ = some (.string e.item) ∧
    w.cell? ⟨b, o + k * 8 + 6, none⟩ = some (.int .i64 e.value) ∧ w.cell? ⟨b, o + k * 8 + 7, none⟩ = some (.string e.text) := by
  obtain ⟨b, o, e, xs, rfl, hb, ho, he, rfl, hc⟩ := h.at_ hk
  exact ⟨b, o, e, rfl, hb, ho, he, hc 0 _ rfl, hc 1 _ rfl, hc 2 _ rfl, hc 3 _ rfl, hc 4 _ rfl, hc 5 _ rfl, hc 6 _ rfl, hc 7 _ rfl⟩
end
/-- An event whose texts are texts, of numbers that are ints. -/
structure EvWf (e : Ev) : Prop where
  src : e.src.size ≤ 140737488355328
  person : e.person.size ≤ 140737488355328
  item : e.item.size ≤ 140737488355328
  text : e.text.size ≤ 140737488355328
def noneB (s : ByteArray) : Bool := s.toList.isEmpty
def headE (e : Ev) : Bool := nameB e.src && decide (1 ≤ e.num) && decide (e.num ≤ 1099511627776) && decide (0 ≤ e.tick) && decide (e.tick ≤ 1099511627776)
def tailE (e : Ev) : Bool :=
  if e.kind = 0 ∨ e.kind = 1 ∨ e.kind = 2 ∨ e.kind = 3 ∨ e.kind = 5 ∨ e.kind = 6 then nameB e.person && nameB e.item && decide (e.value = 0) && noneB e.text
  else if e.kind = 4 then nameB e.person && nameB e.item && decide (1 ≤ e.value) && decide (e.value ≤ 5) && noneB e.text
  else if e.kind = 7 ∨ e.kind = 8 ∨ e.kind = 9 ∨ e.kind = 10 then nameB e.person && noneB e.item && decide (e.value = 0) && nameB e.text
  else if e.kind = 11 then noneB e.person && nameB e.item && decide (0 ≤ e.value) && decide (e.value ≤ 1048576) && labelB e.text
  else if e.kind = 12 then noneB e.person && nameB e.item && decide (0 ≤ e.value) && decide (e.value ≤ 1048576) && noneB e.text
  else if e.kind = 13 then noneB e.person && nameB e.item && decide (e.value = 0) && noneB e.text
  else if e.kind = 14 then nameB e.person && noneB e.item && decide (e.value = 0) && noneB e.text
  else false
def mayE (e : Ev) : Bool := headE e && tailE e
def worthE (e : Ev) : Int := if e.kind = 1 then 1 else if e.kind = 2 then 3 else if e.kind = 3 then 5 else if e.kind = 4 then e.value else 0
end Go.Proofs.YtpkkkhgmkndpdaaGreatDoor
namespace Go.Proofs.YtpkkkhgmkndpdaaGreatDoor
open Go Go.RowKit Go.Proofs

set_option maxHeartbeats 1000000 in
theorem event_Name (s : ByteArray) (w : World) (hs : s.size ≤ maxLen) :
    Calls Tryz.prog 44 #[.string s] w fun e w' => e = .returned (.bool (nameB s)) ∧ w = w' := by
  unfold maxLen at hs
  by_cases h1 : s.size < 1
  · have Hf := Lib.hid (nameB_short h1)
    go_enter Tryz.func44, Tryz.ntmps44
    go_wp2
    go_ret
    exact ⟨by rw [Hf.out]; rfl, rfl⟩
  by_cases h2 : 24 < s.size
  · have Hf := Lib.hid (nameB_long h2)
    go_enter Tryz.func44, Tryz.ntmps44
    go_wp2
    go_ret
    exact ⟨by rw [Hf.out]; rfl, rfl⟩
  have Hf := Lib.hid (nameB_mid h1 h2)
  go_enter Tryz.func44, Tryz.ntmps44
  go_wp2
  go_loop [15] (fun i => ∃ k : Nat, k ≤ s.size ∧ i = .int .i64 k ∧ (s.data.toList.take k).all okByte = true) (fun i => s.size - (intOf i).toNat)
  case atStart => exact ⟨0, Nat.zero_le _, rfl, by simp⟩
  case round =>
    obtain ⟨k, hk, rfl, hall⟩ := hrel
    have Hall := Lib.hid hall
    clear hall
    by_cases hlt : k < s.size
    · by_cases ho : okByte s[k] = true
      · have Hs := Lib.hid (all_step hlt Hall.out ho)
        rw [okByte_iff] at ho
        generalize hc : (s[k].toNat : Int) = c at ho
        rcases ho with ⟨h3, h4⟩ | ⟨h3, h4⟩ | h3
        · rw [← hc] at h3 h4; clear hc
          go_wp2
          go_round
          case rel => exact ⟨k + 1, by omega, by go_num, Hs.out⟩
          case measure => simp [intOf]; omega
        · rw [← hc] at h3 h4; clear hc
          go_wp2
          go_round
          case rel => exact ⟨k + 1, by omega, by go_num, Hs.out⟩
          case measure => simp [intOf]; omega
        · rw [← hc] at h3; clear hc
          have h5 : ((s[k].toNat : Int) == 45) = true := by rw [h3]; rfl
          have h6 : (s[k].toNat : Int) < 48 := by omega
          have h7 : (s[k].toNat : Int) < 97 := by omega
          clear h3
          go_wp2
          go_round
          case rel => exact ⟨k + 1, by omega, by go_num, Hs.out⟩
          case measure => simp [intOf]; omega
      · have Hs := Lib.hid (all_not hlt ho)
        rw [okByte_iff] at ho
        have h5 : ((s[k].toNat : Int) == 45) = false := by rw [beq_eq_false_iff_ne]; omega
        have h6 : ¬ ((97 ≤ (s[k].toNat : Int) ∧ (s[k].toNat : Int) ≤ 122)) := by omega
        have h7 : ¬ ((48 ≤ (s[k].toNat : Int) ∧ (s[k].toNat : Int) ≤ 57)) := by omega
        clear ho
        by_cases h8 : 97 ≤ (s[k].toNat : Int)
        · have h9 : decide ((s[k].toNat : Int) ≤ 122) = false := by rw [decide_eq_false_iff_not]; omega
          have ha : 48 ≤ (s[k].toNat : Int) := by omega
          have hb : decide ((s[k].toNat : Int) ≤ 57) = false := by rw [decide_eq_false_iff_not]; omega
          clear h6 h7
          go_wp2
          go_ret
          exact ⟨by rw [Hf.out, Hs.out]; rfl, rfl⟩
        · by_cases ha : 48 ≤ (s[k].toNat : Int)
          · have hb : decide ((s[k].toNat : Int) ≤ 57) = false := by rw [decide_eq_false_iff_not]; omega
            clear h6 h7
            go_wp2
            go_ret
            exact ⟨by rw [Hf.out, Hs.out]; rfl, rfl⟩
          · clear h6 h7
            go_wp2
            go_ret
            exact ⟨by rw [Hf.out, Hs.out]; rfl, rfl⟩
    · obtain rfl : k = s.size := by omega
      go_wp2
      go_ret
      exact ⟨by rw [Hf.out, show s.data.toList.all okByte = true from by rw [← take_all s _ (Nat.le_refl _)]; exact Hall.out]; rfl, rfl⟩

set_option maxHeartbeats 1000000 in
theorem ref_Name (s : ByteArray) (w : World) (hs : s.size ≤ maxLen) :
    Calls Tryz.prog 34 #[.string s] w fun e w' => e = .returned (.bool (nameB s)) ∧ w = w' := by
  unfold maxLen at hs
  by_cases h1 : s.size < 1
  · have Hf := Lib.hid (nameB_short h1)
    go_enter Tryz.func34, Tryz.ntmps34
    go_wp2
    go_ret
    exact ⟨by rw [Hf.out]; rfl, rfl⟩
  by_cases h2 : 24 < s.size
  · have Hf := Lib.hid (nameB_long h2)
    go_enter Tryz.func34, Tryz.ntmps34
    go_wp2
    go_ret
    exact ⟨by rw [Hf.out]; rfl, rfl⟩
  have Hf := Lib.hid (nameB_mid h1 h2)
  go_enter Tryz.func34, Tryz.ntmps34
  go_wp2
  go_loop [3, 4] (fun i _ => ∃ k : Nat, k ≤ s.size ∧ i = .int .i64 k ∧ (s.data.toList.take k).all okByte = true) (fun i _ => s.size - (intOf i).toNat)
  case atStart => exact ⟨0, Nat.zero_le _, rfl, by simp⟩
  case round =>
    obtain ⟨k, hk, rfl, hall⟩ := hrel
    have Hall := Lib.hid hall
    clear hall
    by_cases hlt : k < s.size
    · by_cases ho : okByte s[k] = true
      · have Hs := Lib.hid (all_step hlt Hall.out ho)
        rw [okByte_iff] at ho
        generalize hc : (s[k].toNat : Int) = c at ho
        rcases ho with ⟨h3, h4⟩ | ⟨h3, h4⟩ | h3
        · rw [← hc] at h3 h4; clear hc
          go_wp2
          go_round
          case rel => exact ⟨k + 1, by omega, by go_num, Hs.out⟩
          case measure => simp [intOf]; omega
        · rw [← hc] at h3 h4; clear hc
          go_wp2
          go_round
          case rel => exact ⟨k + 1, by omega, by go_num, Hs.out⟩
          case measure => simp [intOf]; omega
        · rw [← hc] at h3; clear hc
          have h5 : ((s[k].toNat : Int) == 45) = true := by rw [h3]; rfl
          have h6 : (s[k].toNat : Int) < 48 := by omega
          have h7 : (s[k].toNat : Int) < 97 := by omega
          clear h3
          go_wp2
          go_round
          case rel => exact ⟨k + 1, by omega, by go_num, Hs.out⟩
          case measure => simp [intOf]; omega
      · have Hs := Lib.hid (all_not hlt ho)
        rw [okByte_iff] at ho
        have h5 : ((s[k].toNat : Int) == 45) = false := by rw [beq_eq_false_iff_ne]; omega
        have h6 : ¬ ((97 ≤ (s[k].toNat : Int) ∧ (s[k].toNat : Int) ≤ 122)) := by omega
        have h7 : ¬ ((48 ≤ (s[k].toNat : Int) ∧ (s[k].toNat : Int) ≤ 57)) := by omega
        clear ho
        by_cases h8 : 97 ≤ (s[k].toNat : Int)
        · have h9 : decide ((s[k].toNat : Int) ≤ 122) = false := by rw [decide_eq_false_iff_not]; omega
          have ha : 48 ≤ (s[k].toNat : Int) := by omega
          have hb : decide ((s[k].toNat : Int) ≤ 57) = false := by rw [decide_eq_false_iff_not]; omega
          clear h6 h7
          go_wp2
          go_ret
          exact ⟨by rw [Hf.out, Hs.out]; rfl, rfl⟩
        · by_cases ha : 48 ≤ (s[k].toNat : Int)
          · have hb : decide ((s[k].toNat : Int) ≤ 57) = false := by rw [decide_eq_false_iff_not]; omega
            clear h6 h7
            go_wp2
            go_ret
            exact ⟨by rw [Hf.out, Hs.out]; rfl, rfl⟩
          · clear h6 h7
            go_wp2
            go_ret
            exact ⟨by rw [Hf.out, Hs.out]; rfl, rfl⟩
    · obtain rfl : k = s.size := by omega
      go_wp2
      go_ret
      exact ⟨by rw [Hf.out, show s.data.toList.all okByte = true from by rw [← take_all s _ (Nat.le_refl _)]; exact Hall.out]; rfl, rfl⟩
end Go.Proofs.YtpkkkhgmkndpdaaGreatDoor
namespace Go.Proofs.YtpkkkhgmkndpdaaGreatDoor
open Go Go.RowKit Go.Proofs
attribute [local go_sem ↓] Go.wp_at_zero Go.wp_at_succ

theorem ref_In (n lo hi : Int) (w : World) :
    Calls Tryz.prog 35 #[.int .i64 n, .int .i64 lo, .int .i64 hi] w fun e w' => e = .returned (.bool (decide (lo ≤ n) && decide (n ≤ hi))) ∧ w = w' := by
  cases h1 : decide (lo ≤ n)
  · go_enter Tryz.func35, Tryz.ntmps35
    go_wp2_with fail
    go_ret
    exact ⟨rfl, rfl⟩
  · go_enter Tryz.func35, Tryz.ntmps35
    go_wp2_with fail
    go_ret
    exact ⟨rfl, rfl⟩

theorem at_split {s : ByteArray} {k : Nat} {c : UInt8} (hk : k < s.size) (h : s[k] = c) : s.data.toList = s.data.toList.take k ++ c :: s.data.toList.drop (k + 1) := by
  have hk' : k < s.data.toList.length := by simpa using hk
  have e : s.data.toList[k] = c := h
  rw [← e, ← List.drop_eq_getElem_cons hk', List.take_append_drop]
theorem free_step {s : ByteArray} {k : Nat} {c : UInt8} (hk : k < s.size) (hf : freeL c (s.data.toList.take k)) (h : s[k] ≠ c) : freeL c (s.data.toList.take (k + 1)) := by
  rw [take_snoc s k hk]
  intro x hx
  rcases List.mem_append.1 hx with hx | hx
  · exact hf x hx
  · simp at hx; subst hx; exact h
theorem byte_eq (a c : UInt8) : ((a.toNat : Int) == (c.toNat : Int)) = (a == c) := by
  rw [Bool.eq_iff_iff]; simp only [beq_iff_eq]
  constructor
  · intro h; exact UInt8.toNat_inj.1 (by omega)
  · intro h; rw [h]
def placeI (s : ByteArray) : Int := if semiB s then ((aheadL 59 s.data.toList).length : Nat) else -1
theorem placeI_none {s : ByteArray} (h : freeL 59 s.data.toList) : placeI s = -1 := by unfold placeI semiB; rw [(cut_none h).2.2]; rfl
theorem placeI_hit {s : ByteArray} {a r : List UInt8} (h : freeL 59 a) (e : s.data.toList = a ++ 59 :: r) : placeI s = (a.length : Nat) := by unfold placeI semiB; rw [e, (cut_hit h).2.2, (cut_hit h).1]; rfl

set_option maxRecDepth 100000 in
set_option maxHeartbeats 1000000 in
theorem ref_place (s : ByteArray) (w : World) (hs : s.size ≤ maxLen) :
    Calls Tryz.prog 58 #[.string s] w fun e w' => e = .returned (.int .i64 (placeI s)) ∧ w = w' := by
  unfold maxLen at hs
  go_enter Tryz.func58, Tryz.ntmps58
  go_wp2_with fail
  go_loop [3] (fun i => ∃ k : Nat, k ≤ s.size ∧ i = .int .i64 k ∧ freeL 59 (s.data.toList.take k)) (fun i => s.size - (intOf i).toNat)
  case atStart => exact ⟨0, Nat.zero_le _, rfl, fun _ h => by simp at h⟩
  case round =>
    obtain ⟨k, hk, rfl, hall⟩ := hrel
    have Hall := Lib.hid hall
    clear hall
    by_cases hlt : k < s.size
    · cases h5 : ((s[k].toNat : Int) == 59)
      · have Hst := Lib.hid (free_step hlt Hall.out (fun e => by rw [e] at h5; cases h5))
        go_wp2_with fail
        go_round
        case rel => exact ⟨k + 1, by omega, by go_num, Hst.out⟩
        case measure => simp [intOf]; omega
      · have Hf := Lib.hid (placeI_hit Hall.out (at_split hlt (by rw [show (59 : Int) = ((59 : UInt8).toNat : Int) from rfl, byte_eq] at h5; exact beq_iff_eq.1 h5)))
        have Hln := Lib.hid (show (s.data.toList.take k).length = k by simp; omega)
        go_wp2_with fail
        go_ret
        exact ⟨by rw [Hf.out, Hln.out]; rfl, rfl⟩
    · obtain rfl : k = s.size := by omega
      have Hf := Lib.hid (placeI_none (s := s) (by have := Hall.out; rw [take_all s _ (Nat.le_refl _)] at this; exact this))
      go_wp2_with fail
      go_ret
      exact ⟨by rw [Hf.out]; rfl, rfl⟩

theorem extract_to {s : ByteArray} {a r : List UInt8} {c : UInt8} (e : s.data.toList = a ++ c :: r) : s.extract 0 a.length = bts a := by
  apply ByteArray.ext
  rw [← Array.toList_inj, Lib.extract_from_zero, bts_data, e]; simp
theorem extract_from {s : ByteArray} {a r : List UInt8} {c : UInt8} (e : s.data.toList = a ++ c :: r) : s.extract (a.length + 1) s.size = bts r := by
  apply ByteArray.ext
  rw [← Array.toList_inj, Lib.extract_to_end, bts_data, e]; simp
theorem hit_size {s : ByteArray} {a r : List UInt8} {c : UInt8} (e : s.data.toList = a ++ c :: r) : s.size = a.length + 1 + r.length := by
  have : s.size = s.data.toList.length := by simp
  rw [this, e]; simp; omega

set_option maxRecDepth 100000 in
set_option maxHeartbeats 1000000 in
theorem ref_Maker (s : ByteArray) (w : World) (hs : s.size ≤ maxLen) :
    Calls Tryz.prog 59 #[.string s] w fun e w' => e = .returned (.string (makerB s)) ∧ w = w' := by
  rcases cut_cases 59 s.data.toList with h | ⟨a, r, h, e⟩
  · have Hp := Lib.hid (placeI_none h)
    have Hm := Lib.hid (show makerB s = s by unfold makerB; rw [(cut_none h).1, bts_of])
    clear h
    go_enter Tryz.func59, Tryz.ntmps59
    go_wp2_with (go_at_call 58; refine (ref_place s _ hs).mono ?_; rw [Hp.out]; rintro _ w' ⟨rfl, rfl⟩)
    go_ret
    exact ⟨by rw [Hm.out]; rfl, rfl⟩
  · have Hp := Lib.hid (placeI_hit h e)
    have Hm := Lib.hid (show makerB s = s.extract 0 a.length by rw [extract_to e]; unfold makerB; rw [e, (cut_hit h).1])
    have hsz := hit_size e
    have hle : a.length ≤ s.size := by omega
    unfold maxLen at hs
    clear h e hsz
    go_enter Tryz.func59, Tryz.ntmps59
    go_wp2_with (go_at_call 58; refine (ref_place s _ (by unfold maxLen; omega)).mono ?_; rw [Hp.out]; rintro _ w' ⟨rfl, rfl⟩)
    go_ret
    exact ⟨by rw [Hm.out]; rfl, rfl⟩

/-! ### Parts -/
def PartsAt (c : UInt8) (l : List UInt8) (k fr : Nat) (done : List ByteArray) : Prop :=
  (k ≤ l.length ∧ fr ≤ k ∧ freeL c ((l.drop fr).take (k - fr)) ∧ (partsL c l).map bts = done ++ (partsL c (l.drop fr)).map bts) ∨ (k = l.length + 1 ∧ (partsL c l).map bts = done)
theorem partsAt_zero (c : UInt8) (l : List UInt8) : PartsAt c l 0 0 [] := .inl ⟨Nat.zero_le _, Nat.le_refl _, fun _ h => by simp at h, by simp⟩
theorem drop_take_succ {l : List UInt8} {k fr : Nat} (hk : k < l.length) (hf : fr ≤ k) : (l.drop fr).take (k + 1 - fr) = (l.drop fr).take (k - fr) ++ [l[k]] := by
  have h1 : k - fr < (l.drop fr).length := by simp; omega
  rw [show k + 1 - fr = (k - fr) + 1 by omega, List.take_succ_eq_append_getElem h1]
  simp [show fr + (k - fr) = k by omega]
theorem partsAt_pass {c : UInt8} {l : List UInt8} {k fr : Nat} {done : List ByteArray} (h : PartsAt c l k fr done) (hk : k < l.length) (hc : l[k] ≠ c) : PartsAt c l (k + 1) fr done := by
  rcases h with ⟨h1, h2, h3, h4⟩ | ⟨h1, _⟩
  · refine .inl ⟨by omega, by omega, ?_, h4⟩
    rw [drop_take_succ hk h2]
    intro x hx
    rcases List.mem_append.1 hx with hx | hx
    · exact h3 x hx
    · simp at hx; subst hx; exact hc
  · omega
theorem partsAt_cut {c : UInt8} {l : List UInt8} {k fr : Nat} {done : List ByteArray} (h : PartsAt c l k fr done) (hk : k < l.length) (hc : l[k] = c) : fr ≤ k ∧ PartsAt c l (k + 1) (k + 1) (done ++ [bts ((l.drop fr).take (k - fr))]) := by
  rcases h with ⟨h1, h2, h3, h4⟩ | ⟨h1, _⟩
  · refine ⟨h2, .inl ⟨by omega, Nat.le_refl _, by simp [freeL], ?_⟩⟩
    have e : l.drop fr = (l.drop fr).take (k - fr) ++ c :: l.drop (k + 1) := by
      have h5 : (l.drop fr).drop (k - fr) = c :: l.drop (k + 1) := by
        rw [List.drop_drop, show fr + (k - fr) = k by omega, List.drop_eq_getElem_cons hk, hc]
      rw [← h5, List.take_append_drop]
    rw [h4, e, partsL_hit h3, ← e]
    simp
  · omega
theorem partsAt_last {c : UInt8} {l : List UInt8} {fr : Nat} {done : List ByteArray} (h : PartsAt c l l.length fr done) : fr ≤ l.length ∧ PartsAt c l (l.length + 1) (l.length + 1) (done ++ [bts ((l.drop fr).take (l.length - fr))]) := by
  rcases h with ⟨h1, h2, h3, h4⟩ | ⟨h1, _⟩
  · refine ⟨h2, .inr ⟨rfl, ?_⟩⟩
    have e : (l.drop fr).take (l.length - fr) = l.drop fr := List.take_of_length_le (by simp)
    rw [e] at h3 ⊢
    rw [h4, partsL_none h3]; rfl
  · omega
theorem extract_mid (s : ByteArray) (a b : Nat) : s.extract a b = bts ((s.data.toList.drop a).take (b - a)) := by
  apply ByteArray.ext
  rw [← Array.toList_inj, bts_data, Lib.extract_data]

theorem info_strE : (Tryz.prog.info? 9).map (fun i => (i.zero, i.size, i.bytes)) = some (some (.string ⟨#[]⟩), 1, 16) := by kernel_rfl
def PartsPost (l : List ByteArray) (w : World) (e : Ending) (w' : World) : Prop :=
  ∃ A c, e = .returned (.slice A l.length c) ∧ Own strR 9 (fun _ => True) w' w.heap.size (.slice A l.length c) l.length l ∧ Ext w w'

set_option maxRecDepth 100000 in
set_option maxHeartbeats 4000000 in
theorem ref_Parts (s : ByteArray) (c : UInt8) (w : World) (hs : s.size ≤ 1000000) :
    Calls Tryz.prog 90 #[.string s, .int .u8 (c.toNat : Int)] w (PartsPost ((partsL c s.data.toList).map bts) w) := by
  obtain ⟨i0, hi0, hz0, hz1, hz2⟩ := info_parts info_strE
  have Hl := Lib.hid (show s.data.toList.length = s.size by simp)
  obtain ⟨cc, hcc⟩ : ∃ cc : Int, cc = (c.toNat : Int) := ⟨_, rfl⟩
  rw [← hcc]
  have Hcc := Lib.hid hcc
  clear hcc
  go_enter Tryz.func90, Tryz.ntmps90
  go_wp2_with fail
  go_loopw [5, 6, 7] (fun v f i wr => ∃ (k fr : Nat) (A : Option Addr) (cp : Nat) (done : List ByteArray), k ≤ s.size + 1 ∧ done.length ≤ k ∧ i = .int .i64 k ∧ f = .int .i64 fr ∧ v = .slice A done.length cp ∧ PartsAt c s.data.toList k fr done ∧ Own strR 9 (fun _ => True) wr w.heap.size (.slice A done.length cp) done.length done ∧ Ext w wr) (fun _ _ i _ => s.size + 1 - (intOf i).toNat)
  case atStart => exact ⟨0, 0, _, _, [], by omega, by simp, rfl, rfl, rfl, partsAt_zero _ _, Own.new_strs (blk_new _ _) (Nat.le_refl _) rfl (by simp) rfl, (Keeps.refl _ _).alloc _⟩
  case round =>
    obtain ⟨k, fr, A, cp, done, hk, hdk, rfl, rfl, rfl, hat, hown, hx⟩ := hrel
    have Hat := Lib.hid hat
    have Hown := Lib.hid hown
    have Hx := Lib.hid hx
    have hsz := hx.size
    obtain ⟨n, hn⟩ : ∃ n, n = done.length := ⟨_, rfl⟩
    rw [← hn] at hdk Hown ⊢
    have Hn := Lib.hid hn
    clear hat hown hx hn
    by_cases hlt : k < s.size
    · have Hbe := Lib.hid (byte_eq s[k] c)
      cases h5 : ((s[k].toNat : Int) == cc)
      · have Hst := Lib.hid (partsAt_pass Hat.out (by simpa using hlt) (fun e => by rw [Hcc.out, Hbe.out] at h5; rw [show s[k] = c from e] at h5; simp at h5))
        have h6 : ((k : Int) == (s.size : Int)) = false := by rw [beq_eq_false_iff_ne]; omega
        clear Hbe
        go_wp2_with fail
        go_roundw
        case rel => exact ⟨k + 1, fr, A, cp, done, by omega, by have := Hn.out; omega, by go_num, rfl, by rw [Hn.out], Hst.out, by have := Hown.out; rw [Hn.out] at this; exact this, Hx.out⟩
        case measure => simp [intOf]; omega
      · obtain ⟨hfk, hst⟩ := partsAt_cut Hat.out (by simpa using hlt) (show s.data.toList[k] = c by rw [Hcc.out, Hbe.out] at h5; exact beq_iff_eq.1 h5)
        have Hst := Lib.hid hst
        have Hex := Lib.hid (extract_mid s fr k)
        have h6 : ((k : Int) == (s.size : Int)) = false := by rw [beq_eq_false_iff_ne]; omega
        have j0 : (0 : Int) ≤ (fr : Int) := by omega
        have j1 : (fr : Int) ≤ (k : Int) := by omega
        have j2 : (k : Int) ≤ (s.size : Int) := by omega
        clear Hbe hst
        go_wp2_with (at_builtin; refine wpList_append_Own (ok := fun _ => True) (R := strR) _ rfl (.tmp 26) (.tmp 31) 34 rfl 9 i0 _ 16 w.heap.size Tryz.underlying34 hi0 hz0 hz1 hz2 rfl (by decide) rfl (Hown.out.alloc _) _ 1 1 [s.extract fr k] rfl (Srcs.one_new rfl (blk_new _ _) rfl) (by omega) (by decide) (by simp; omega) ?_; intro A5 c5 w5 hown5 hg5 hat5; have Hext := Lib.hid (show Ext w w5 from Keeps.grown (Hx.out.alloc _) hg5 (fun g hg hl => by have := (Hown.out.lt g hg).1; omega)); have Hown5 := Lib.hid hown5; clear hown5 hg5 hat5)
        go_roundw
        case rel =>
          refine ⟨k + 1, k + 1, A5, c5, done ++ [s.extract fr k], by omega, by simp; have := Hn.out; omega, by go_num, by go_num, by rw [Hn.out]; simp, ?_, ?_, Hext.out⟩
          · rw [Hex.out]; exact Hst.out
          · have h9 := Hown5.out
            rw [Hn.out] at h9
            rw [List.length_append]; exact h9
        case measure => simp [intOf]; omega
    · by_cases hle : k ≤ s.size
      · obtain rfl : k = s.size := by omega
        have hat' : PartsAt c s.data.toList s.data.toList.length fr done := by rw [Hl.out]; exact Hat.out
        obtain ⟨hfk, hst⟩ := partsAt_last hat'
        rw [Hl.out] at hfk hst
        have Hst := Lib.hid hst
        have Hex := Lib.hid (extract_mid s fr s.size)
        have j0 : (0 : Int) ≤ (fr : Int) := by omega
        have j1 : (fr : Int) ≤ (s.size : Int) := by omega
        clear hst hat'
        go_wp2_with (at_builtin; refine wpList_append_Own (ok := fun _ => True) (R := strR) _ rfl (.tmp 26) (.tmp 31) 34 rfl 9 i0 _ 16 w.heap.size Tryz.underlying34 hi0 hz0 hz1 hz2 rfl (by decide) rfl (Hown.out.alloc _) _ 1 1 [s.extract fr s.size] rfl (Srcs.one_new rfl (blk_new _ _) rfl) (by omega) (by decide) (by simp; omega) ?_; intro A5 c5 w5 hown5 hg5 hat5; have Hext := Lib.hid (show Ext w w5 from Keeps.grown (Hx.out.alloc _) hg5 (fun g hg hl => by have := (Hown.out.lt g hg).1; omega)); have Hown5 := Lib.hid hown5; clear hown5 hg5 hat5)
        go_roundw
        case rel =>
          refine ⟨s.size + 1, s.size + 1, A5, c5, done ++ [s.extract fr s.size], by omega, by simp; have := Hn.out; omega, by go_num, by go_num, by rw [Hn.out]; simp, ?_, ?_, Hext.out⟩
          · rw [Hex.out]; exact Hst.out
          · have h9 := Hown5.out
            rw [Hn.out] at h9
            rw [List.length_append]; exact h9
        case measure => simp [intOf]
      · obtain rfl : k = s.size + 1 := by omega
        have Hd := Lib.hid (show (partsL c s.data.toList).map bts = done by
          rcases Hat.out with ⟨h1, _⟩ | ⟨_, h2⟩
          · exact absurd h1 (by have := Hl.out; omega)
          · exact h2)
        go_wp2_with fail
        go_ret
        refine ⟨A, cp, ?_, ?_, Hx.out⟩
        · rw [Hd.out, ← Hn.out]; rfl
        · have h9 := Hown.out
          rw [Hn.out] at h9
          rw [Hd.out]; exact h9

theorem tagsB_none {s : ByteArray} (h : freeL 59 s.data.toList) : tagsB s = [] := by unfold tagsB; rw [(cut_none h).2.1]; rfl
theorem tagsB_empty {s : ByteArray} {a : List UInt8} (h : freeL 59 a) (e : s.data.toList = a ++ [59]) : tagsB s = [] := by unfold tagsB; rw [e, (cut_hit h).2.1]; rfl
theorem tagsB_some {s : ByteArray} {a r : List UInt8} (h : freeL 59 a) (e : s.data.toList = a ++ 59 :: r) (hr : r ≠ []) : tagsB s = (partsL 44 r).map bts := by
  unfold tagsB; rw [e, (cut_hit h).2.1]
  rw [if_neg (by cases r <;> simp at hr ⊢)]

set_option maxRecDepth 100000 in
set_option maxHeartbeats 2000000 in
theorem ref_Tags (s : ByteArray) (w : World) (hs : s.size ≤ 1000000) :
    Calls Tryz.prog 60 #[.string s] w (PartsPost (tagsB s) w) := by
  have hsm : s.size ≤ maxLen := by unfold maxLen; omega
  rcases cut_cases 59 s.data.toList with h | ⟨a, r, h, e⟩
  · have Hp := Lib.hid (placeI_none h)
    have Hm := Lib.hid (tagsB_none h)
    clear h
    go_enter Tryz.func60, Tryz.ntmps60
    go_wp2_with (go_at_call 58; refine (ref_place s _ hsm).mono ?_; rw [Hp.out]; rintro _ w' ⟨rfl, rfl⟩)
    go_ret
    rw [Hm.out]
    exact ⟨_, _, rfl, Own.new_strs (blk_new _ _) (Nat.le_refl _) rfl (by simp) rfl, (Keeps.refl _ _).alloc _⟩
  · have Hp := Lib.hid (placeI_hit h e)
    have hsz := hit_size e
    by_cases hr : r = []
    · subst hr
      have Hm := Lib.hid (tagsB_empty h e)
      simp at hsz
      have h6 : ((a.length : Int) == (s.size : Int) - 1) = true := by rw [beq_iff_eq]; omega
      clear h e
      go_enter Tryz.func60, Tryz.ntmps60
      go_wp2_with (go_at_call 58; refine (ref_place s _ hsm).mono ?_; rw [Hp.out]; rintro _ w' ⟨rfl, rfl⟩)
      go_ret
      rw [Hm.out]
      exact ⟨_, _, rfl, Own.new_strs (blk_new _ _) (Nat.le_refl _) rfl (by simp) rfl, (Keeps.refl _ _).alloc _⟩
    · have hrl : 0 < r.length := List.length_pos_iff.2 hr
      have h6 : ((a.length : Int) == (s.size : Int) - 1) = false := by rw [beq_eq_false_iff_ne]; omega
      have Hm := Lib.hid (tagsB_some h e hr)
      have HP := Lib.hid (show ∀ W, Calls Tryz.prog 90 #[.string (s.extract (a.length + 1) s.size), .int .u8 44] W (PartsPost (tagsB s) W) from fun W => by
        have h9 := ref_Parts (s.extract (a.length + 1) s.size) 44 W (by rw [extract_from e, bts_size]; omega)
        rw [Hm.out]
        have e9 : (s.extract (a.length + 1) s.size).data.toList = r := by rw [extract_from e, bts_data]
        rw [e9] at h9
        exact h9)
      have j1 : (a.length : Int) + 1 ≤ (s.size : Int) := by omega
      have Hsz := Lib.hid hsz
      clear h e hr hsz hrl
      go_enter Tryz.func60, Tryz.ntmps60
      go_wp2_with (first | (go_at_call 58; refine (ref_place s _ hsm).mono ?_; rw [Hp.out]; rintro _ w' ⟨rfl, rfl⟩) | (go_at_call 90; refine (HP.out _).mono ?_; rintro _ w2 ⟨A, cp, rfl, hown, hx⟩; have Hown := Lib.hid hown; have Hx := Lib.hid hx; clear hown hx))
      go_ret
      exact ⟨A, cp, rfl, Hown.out, Hx.out⟩
end Go.Proofs.YtpkkkhgmkndpdaaGreatDoor
