/-
  What is proved here: the document's In and Put of texts, as plain functions. Conditions: lists that fit.
  the document's Gone, Without, Left, Anew of events, as plain functions. Conditions: at most a hundred thousand events that may be.
  the document's took, items, there, as plain functions. Conditions: at most a hundred thousand events that may be.
  the document's Cases of any events are the plain list's cases, in new memory. Conditions: at most a hundred thousand events that may be.
  the document's Same says yes of two lists of the same cases. Conditions: at most a hundred thousand cases, of at most a million items each.
-/
import Derived.Test.YtpkkkhgmkndpdaaGreatDoorJuP
import Derived.Test.YtpkkkhgmkndpdaaGreatDoorEvLst
import Derived.Test.YtpkkkhgmkndpdaaGreatDoorSoS8
import Derived.Test.YtpkkkhgmkndpdaaGreatDoorExJ0
import Derived.Test.YtpkkkhgmkndpdaaGreatDoorJuW
import Derived.Deep.RegionWith
import Derived.Test.YtpkkkhgmkndpdaaGreatDoorTexts
namespace Go.Proofs.YtpkkkhgmkndpdaaGreatDoor
open Go Go.RowKit Go.Proofs
attribute [local go_sem ↓] Go.wp_at_zero Go.wp_at_succ
theorem Own.strSl {ok : Nat → Prop} {w : World} {base n c : Nat} {A : Option Addr} {l : List ByteArray} (h : Own strR 9 ok w base (.slice A n c) n l) : Sl strR (fun _ => True) w A n l := h.sl (fun _ _ _ _ => trivial) (fun _ _ _ => trivial)
theorem while_at {p : ByteArray → Bool} : ∀ {l : List ByteArray} {j : Nat}, (l.take j).all p = true → (∀ t, l[j]? = some t → p t = false) → l.takeWhile p = l.take j ∧ l.dropWhile p = l.drop j
  | [], j, _, _ => by simp
  | x :: l, 0, _, h => by
    have := h x rfl
    simp [this]
  | x :: l, j + 1, h1, h2 => by
    rw [List.take_succ_cons, List.all_cons, Bool.and_eq_true] at h1
    obtain ⟨a, b⟩ := while_at (l := l) (j := j) h1.2 (fun t ht => h2 t (by simpa using ht))
    simp [h1.1, a, b]
set_option maxRecDepth 100000 in
set_option maxHeartbeats 4000000 in
theorem rf_InX (A : Option Addr) (n c : Nat) (l : List ByteArray) (s : ByteArray) (ok : Nat → Prop) (w : World) (hs : Sl strR ok w A n l) (hn : n ≤ 1000000) :
    Calls Tryz.prog 41 #[.slice A n c, .string s] w fun r w' => r = .returned (.bool (inT l s)) ∧ Ext w w' := by
  have Hs := Lib.hid hs
  have Hl := Lib.hid hs.1
  clear hs
  go_enter Tryz.func41, Tryz.ntmps41
  go_wp2_with fail
  go_loopw [5] (fun i wr => ∃ k : Nat, k ≤ n ∧ i = .int .i64 k ∧ (l.take k).any (fun y => y == s) = false ∧ Ext w wr) (fun i _ => n - (intOf i).toNat)
  case atStart => exact ⟨0, Nat.zero_le _, rfl, rfl, Keeps.refl _ _⟩
  case round =>
    obtain ⟨k, hk, rfl, hal, hx⟩ := hrel
    have Hx := Lib.hid hx
    have Hal := Lib.hid hal
    clear hx hal
    by_cases hlt : k < n
    · obtain ⟨b, o, t, rfl, hb, _, ht, d0⟩ := (Hs.out.ext Hx.out).str hlt
      have j0 : (0 : Int) ≤ (k : Int) := by omega
      have j1 : (k : Int) < (n : Int) := by omega
      have hpe : (t == s) = (t.toList == s.toList) := beq_toListBytes _ _
      have Ht := Lib.hid ht
      clear ht
      cases hm : (t == s)
      · rw [hm] at hpe
        have hpe' := hpe.symm
        have Hn := Lib.hid (show (l.take (k + 1)).any (fun y => y == s) = false by rw [List.take_add_one, Ht.out, List.any_append, Hal.out]; simp [hm])
        clear hpe hm
        go_wp2_with fail
        go_roundw
        case rel => exact ⟨k + 1, by omega, by go_num, Hn.out, Hx.out⟩
        case measure => simp [intOf]; omega
      · rw [hm] at hpe
        have hpe' := hpe.symm
        have Hin := Lib.hid (show inT l s = true from List.any_eq_true.2 ⟨t, List.mem_of_getElem? Ht.out, hm⟩)
        clear hpe hm
        go_wp2_with fail
        go_ret
        exact ⟨by rw [Hin.out]; rfl, Hx.out⟩
    · obtain rfl : k = n := by omega
      have Hf := Lib.hid (show inT l s = false by have h9 := Hal.out; rw [List.take_of_length_le (Nat.le_of_eq Hl.out)] at h9; exact h9)
      go_wp2_with fail
      go_ret
      exact ⟨by rw [Hf.out]; rfl, Hx.out⟩
set_option maxRecDepth 100000 in
set_option maxHeartbeats 8000000 in
theorem rf_PutX (A : Option Addr) (n c : Nat) (l : List ByteArray) (s : ByteArray) (base : Nat) (w : World) (hs : Own strR 9 (fun _ => True) w base (.slice A n c) n l) (hn : n ≤ 100000) :
    Calls Tryz.prog 40 #[.slice A n c, .string s] w fun r w' => ∃ B m cb, r = .returned (.slice B m cb) ∧ (∃ base', (base' = base ∨ base' = w.heap.size) ∧ Own strR 9 (fun _ => True) w' base' (.slice B m cb) m (putT l s)) ∧ Ext w w' := by
  obtain ⟨i0, hi0, hz0, hz1, hz2⟩ := info_parts info_strE
  have Hs := Lib.hid hs
  have HIn := Lib.hid (rf_InX A n c l s _ w hs.strSl (by omega))
  have Hl := Lib.hid hs.1
  obtain ⟨bi, hbi⟩ : ∃ b, b = inT l s := ⟨_, rfl⟩
  rw [← hbi] at HIn
  have Hbi := Lib.hid hbi
  clear hbi
  have hnc := hs.cap
  clear hs
  go_enter Tryz.func40, Tryz.ntmps40
  go_wp2_with fail
  refine HIn.out.mono ?_
  rintro _ w1 ⟨rfl, hx1⟩
  have Hx1 := Lib.hid hx1
  clear hx1
  cases bi
  · go_wp2_with fail
    go_loopw [5] (fun i wr => ∃ j : Nat, j ≤ n ∧ i = .int .i64 j ∧ (l.take j).all (fun y => ltB y s) = true ∧ Ext w wr) (fun i _ => n - (intOf i).toNat)
    case atStart => exact ⟨0, Nat.zero_le _, rfl, rfl, Hx1.out⟩
    case round =>
      obtain ⟨j, hj, rfl, hal, hx⟩ := hrel
      have Hal := Lib.hid hal
      clear hal
      obtain ⟨Z, hZ⟩ : ∃ Z, Z = wr := ⟨_, rfl⟩
      rw [← hZ] at hx ⊢
      have HZ := Lib.hid hx
      clear hx hZ
      have HslZ := Lib.hid (Hs.out.strSl.ext HZ.out)
      have j0 : (0 : Int) ≤ (j : Int) := by omega
      have j1 : (j : Int) ≤ (n : Int) := by omega
      have j2 : (j : Int) ≤ (c : Int) := by omega
      have Hpq := Lib.hid (show (∀ t, l[j]? = some t → ltB t s = false) → putT l s = l.take j ++ [s] ++ l.drop j from fun h => by
        obtain ⟨h1, h2⟩ := while_at Hal.out h
        unfold putT
        rw [← Hbi.out, if_neg (by decide), h1, h2]
        simp)
      have Hcut := Lib.hid (HslZ.out.cut (k := j) (cap := c) hj hnc)
      simp only [show strR.size = 1 from rfl, Nat.mul_one] at Hcut
      by_cases hlt : j < n
      · obtain ⟨b, o, t, rfl, hb, _, ht, d0⟩ := HslZ.out.str hlt
        have j3 : (j : Int) < (n : Int) := by omega
        have Ht := Lib.hid ht
        clear ht
        cases hbl : Op.bytesLess t.toList s.toList
        · have Hpt := Lib.hid (Hpq.out (fun t' ht' => by rw [Ht.out] at ht'; cases ht'; exact hbl))
          by_cases hcb : c = j
          · omega
          · rw [if_neg hcb] at Hcut
            simp only [Option.map_some, ad_add] at Hcut
            (go_wp2_with (first | (at_builtin; refine wpList_append_Own (ok := fun _ => True) (R := strR) _ rfl (.tmp 25) (.tmp 28) 34 rfl 9 i0 _ 16 Z.heap.size Tryz.underlying34 hi0 hz0 hz1 hz2 rfl (by decide) rfl (Own.new_nil (blk_new _ _) (Nat.le_refl _)) _ j _ (l.take j) rfl (Sl.flat_src strR_flat ((HslZ.out.to_ hj).alloc _)) (by omega) (by decide) (by simp) ?_; intro A5 c5 w5 hown5 hg5 hat5; have hx5 : Ext Z w5 := Keeps.grown (Keeps.alloc (Keeps.refl _ _) _) hg5 (fun g hg hl => by have h9 : some Z.heap.size = some g := hg; injection h9 with h9; omega); simp only [Nat.zero_add, List.nil_append] at hown5; have hz5 := hx5.size; have Hown5 := Lib.hid hown5; have Hx5 := Lib.hid hx5; clear hown5 hg5 hat5 hx5) | (at_builtin; refine wpList_append_Own (ok := fun _ => True) (R := strR) _ rfl (.tmp 29) (.tmp 31) 34 rfl 9 i0 _ 16 Z.heap.size Tryz.underlying34 hi0 hz0 hz1 hz2 rfl (by decide) rfl (Hown5.out.alloc _) _ 1 1 [s] rfl (Srcs.one_new rfl (by first | exact blk_new _ _ | exact blk_new_ _ _ (by simp)) rfl) (by omega) (by decide) (by first | omega | (simp; omega)) ?_; intro A6 c6 w6 hown6 hg6 hat6; have hx6 : Ext Z w6 := Keeps.grown (Keeps.alloc Hx5.out _) hg6 (fun g hg hl => by have := (Hown5.out.lt g hg).1; omega); have Hown6 := Lib.hid hown6; have Hx6 := Lib.hid hx6; have hz6 := hx6.size; clear hown6 hg6 hat6 hx6) | (at_builtin; refine wpList_append_Own (ok := fun _ => True) (R := strR) _ rfl (.tmp 33) (.tmp 36) 34 rfl 9 i0 _ 16 Z.heap.size Tryz.underlying34 hi0 hz0 hz1 hz2 rfl (by decide) rfl Hown6.out _ (n - j) _ (l.drop j) rfl (Sl.flat_src strR_flat (Hcut.out.ext Hx6.out)) (by omega) (by decide) (by omega) ?_; intro A7 c7 w7 hown7 hg7 hat7; have Hown7 := Lib.hid hown7; have Hx7 := Lib.hid (show Ext Z w7 from Keeps.grown Hx6.out hg7 (fun g hg hl => by have := (Hown6.out.lt g hg).1; omega)); clear hown7 hg7 hat7)); go_ret; exact ⟨A7, _, c7, rfl, ⟨_, .inr rfl, by rw [Hpt.out]; exact Hown7.out.le HZ.out.size⟩, HZ.out.trans Hx7.out⟩)
        · have Hn := Lib.hid (show (l.take (j + 1)).all (fun y => ltB y s) = true by rw [List.take_add_one, Ht.out, List.all_append, Hal.out]; simp only [Option.toList, List.all_cons, List.all_nil, Bool.and_true, Bool.true_and]; exact hbl)
          go_wp2_with fail
          go_roundw
          case rel => exact ⟨j + 1, by omega, by go_num, Hn.out, HZ.out⟩
          case measure => simp [intOf]; omega
      · have Hpt := Lib.hid (Hpq.out (fun t' ht' => by have := (List.getElem?_eq_some_iff.1 ht').1; have := Hl.out; omega))
        by_cases hcb : c = j
        · rw [if_pos hcb] at Hcut
          (go_wp2_with (first | (at_builtin; refine wpList_append_Own (ok := fun _ => True) (R := strR) _ rfl (.tmp 25) (.tmp 28) 34 rfl 9 i0 _ 16 Z.heap.size Tryz.underlying34 hi0 hz0 hz1 hz2 rfl (by decide) rfl (Own.new_nil (blk_new _ _) (Nat.le_refl _)) _ j _ (l.take j) rfl (Sl.flat_src strR_flat ((HslZ.out.to_ hj).alloc _)) (by omega) (by decide) (by simp) ?_; intro A5 c5 w5 hown5 hg5 hat5; have hx5 : Ext Z w5 := Keeps.grown (Keeps.alloc (Keeps.refl _ _) _) hg5 (fun g hg hl => by have h9 : some Z.heap.size = some g := hg; injection h9 with h9; omega); simp only [Nat.zero_add, List.nil_append] at hown5; have hz5 := hx5.size; have Hown5 := Lib.hid hown5; have Hx5 := Lib.hid hx5; clear hown5 hg5 hat5 hx5) | (at_builtin; refine wpList_append_Own (ok := fun _ => True) (R := strR) _ rfl (.tmp 29) (.tmp 31) 34 rfl 9 i0 _ 16 Z.heap.size Tryz.underlying34 hi0 hz0 hz1 hz2 rfl (by decide) rfl (Hown5.out.alloc _) _ 1 1 [s] rfl (Srcs.one_new rfl (by first | exact blk_new _ _ | exact blk_new_ _ _ (by simp)) rfl) (by omega) (by decide) (by first | omega | (simp; omega)) ?_; intro A6 c6 w6 hown6 hg6 hat6; have hx6 : Ext Z w6 := Keeps.grown (Keeps.alloc Hx5.out _) hg6 (fun g hg hl => by have := (Hown5.out.lt g hg).1; omega); have Hown6 := Lib.hid hown6; have Hx6 := Lib.hid hx6; have hz6 := hx6.size; clear hown6 hg6 hat6 hx6) | (at_builtin; refine wpList_append_Own (ok := fun _ => True) (R := strR) _ rfl (.tmp 33) (.tmp 36) 34 rfl 9 i0 _ 16 Z.heap.size Tryz.underlying34 hi0 hz0 hz1 hz2 rfl (by decide) rfl Hown6.out _ (n - j) _ (l.drop j) rfl (Sl.flat_src strR_flat (Hcut.out.ext Hx6.out)) (by omega) (by decide) (by omega) ?_; intro A7 c7 w7 hown7 hg7 hat7; have Hown7 := Lib.hid hown7; have Hx7 := Lib.hid (show Ext Z w7 from Keeps.grown Hx6.out hg7 (fun g hg hl => by have := (Hown6.out.lt g hg).1; omega)); clear hown7 hg7 hat7)); go_ret; exact ⟨A7, _, c7, rfl, ⟨_, .inr rfl, by rw [Hpt.out]; exact Hown7.out.le HZ.out.size⟩, HZ.out.trans Hx7.out⟩)
        · rw [if_neg hcb] at Hcut
          (go_wp2_with (first | (at_builtin; refine wpList_append_Own (ok := fun _ => True) (R := strR) _ rfl (.tmp 25) (.tmp 28) 34 rfl 9 i0 _ 16 Z.heap.size Tryz.underlying34 hi0 hz0 hz1 hz2 rfl (by decide) rfl (Own.new_nil (blk_new _ _) (Nat.le_refl _)) _ j _ (l.take j) rfl (Sl.flat_src strR_flat ((HslZ.out.to_ hj).alloc _)) (by omega) (by decide) (by simp) ?_; intro A5 c5 w5 hown5 hg5 hat5; have hx5 : Ext Z w5 := Keeps.grown (Keeps.alloc (Keeps.refl _ _) _) hg5 (fun g hg hl => by have h9 : some Z.heap.size = some g := hg; injection h9 with h9; omega); simp only [Nat.zero_add, List.nil_append] at hown5; have hz5 := hx5.size; have Hown5 := Lib.hid hown5; have Hx5 := Lib.hid hx5; clear hown5 hg5 hat5 hx5) | (at_builtin; refine wpList_append_Own (ok := fun _ => True) (R := strR) _ rfl (.tmp 29) (.tmp 31) 34 rfl 9 i0 _ 16 Z.heap.size Tryz.underlying34 hi0 hz0 hz1 hz2 rfl (by decide) rfl (Hown5.out.alloc _) _ 1 1 [s] rfl (Srcs.one_new rfl (by first | exact blk_new _ _ | exact blk_new_ _ _ (by simp)) rfl) (by omega) (by decide) (by first | omega | (simp; omega)) ?_; intro A6 c6 w6 hown6 hg6 hat6; have hx6 : Ext Z w6 := Keeps.grown (Keeps.alloc Hx5.out _) hg6 (fun g hg hl => by have := (Hown5.out.lt g hg).1; omega); have Hown6 := Lib.hid hown6; have Hx6 := Lib.hid hx6; have hz6 := hx6.size; clear hown6 hg6 hat6 hx6) | (at_builtin; refine wpList_append_Own (ok := fun _ => True) (R := strR) _ rfl (.tmp 33) (.tmp 36) 34 rfl 9 i0 _ 16 Z.heap.size Tryz.underlying34 hi0 hz0 hz1 hz2 rfl (by decide) rfl Hown6.out _ (n - j) _ (l.drop j) rfl (Sl.flat_src strR_flat (Hcut.out.ext Hx6.out)) (by omega) (by decide) (by omega) ?_; intro A7 c7 w7 hown7 hg7 hat7; have Hown7 := Lib.hid hown7; have Hx7 := Lib.hid (show Ext Z w7 from Keeps.grown Hx6.out hg7 (fun g hg hl => by have := (Hown6.out.lt g hg).1; omega)); clear hown7 hg7 hat7)); go_ret; exact ⟨A7, _, c7, rfl, ⟨_, .inr rfl, by rw [Hpt.out]; exact Hown7.out.le HZ.out.size⟩, HZ.out.trans Hx7.out⟩)
  · have Hpt := Lib.hid (show putT l s = l by unfold putT; rw [← Hbi.out, if_pos rfl])
    go_wp2_with fail
    go_ret
    exact ⟨A, n, c, rfl, ⟨base, .inl rfl, by rw [Hpt.out]; exact Hs.out.ext Hx1.out⟩, Hx1.out⟩
end Go.Proofs.YtpkkkhgmkndpdaaGreatDoor
namespace Go.Proofs.YtpkkkhgmkndpdaaGreatDoor
open Go Go.RowKit Go.Proofs
attribute [local go_sem ↓] Go.wp_at_zero Go.wp_at_succ
def goneStep (g : List ByteArray) (e : Ev) : List ByteArray := if e.kind = 14 then putT g e.person else g
def goneR (l : List Ev) : List ByteArray := l.foldl goneStep []
def keepE (p : ByteArray) (e : Ev) : Bool := !(e.person == p) || decide (e.kind = 14)
def leftR (l : List Ev) : List Ev := (goneR l).foldl (fun out g => out.filter (keepE g)) l
theorem gone_snoc {l : List Ev} {k : Nat} {e : Ev} (h : l[k]? = some e) : goneR (l.take (k + 1)) = goneStep (goneR (l.take k)) e := by
  unfold goneR; rw [List.take_add_one, h]; simp
theorem putT_len (l : List ByteArray) (s : ByteArray) : (putT l s).length ≤ l.length + 1 := by
  unfold putT
  split
  · omega
  · have h := congrArg List.length (List.takeWhile_append_dropWhile (p := fun y => ltB y s) (l := l))
    simp only [List.length_append, List.length_cons] at *
    omega
theorem goneF_len : ∀ (l : List Ev) (g : List ByteArray), (l.foldl goneStep g).length ≤ g.length + l.length
  | [], _ => by simp
  | e :: l, g => by
    rw [List.foldl_cons]
    have h1 := goneF_len l (goneStep g e)
    have h2 : (goneStep g e).length ≤ g.length + 1 := by
      unfold goneStep
      split
      · exact putT_len _ _
      · omega
    simp only [List.length_cons]
    omega
theorem gone_len (l : List Ev) : (goneR l).length ≤ l.length := by have := goneF_len l []; simpa [goneR] using this
theorem goneR_memF (x : ByteArray) : ∀ (l : List Ev) (g : List ByteArray), x ∈ l.foldl goneStep g ↔ x ∈ g ∨ ∃ e ∈ l, e.kind = 14 ∧ e.person = x
  | [], g => by simp
  | e :: l, g => by
    rw [List.foldl_cons, goneR_memF x l]
    have hq : x ∈ goneStep g e ↔ x ∈ g ∨ (e.kind = 14 ∧ e.person = x) := by
      unfold goneStep
      by_cases hk : e.kind = 14
      · rw [if_pos hk, putT_mem]
        exact ⟨fun h => h.imp id fun h => ⟨hk, h.symm⟩, fun h => h.imp id fun h => h.2.symm⟩
      · rw [if_neg hk]
        exact ⟨.inl, fun h => h.elim id fun h => absurd h.1 hk⟩
    rw [hq]
    constructor
    · rintro ((h | h) | ⟨y, hy, h⟩)
      · exact .inl h
      · exact .inr ⟨e, by simp, h⟩
      · exact .inr ⟨y, by simp [hy], h⟩
    · rintro (h | ⟨y, hy, h⟩)
      · exact .inl (.inl h)
      · rcases List.mem_cons.1 hy with rfl | hy
        · exact .inl (.inr h)
        · exact .inr ⟨y, hy, h⟩
theorem foldl_filter (gs : List ByteArray) : ∀ l : List Ev, gs.foldl (fun out g => out.filter (keepE g)) l = l.filter (fun e => gs.all (fun g => keepE g e)) := by
  induction gs with
  | nil => intro l; exact (List.filter_eq_self.2 (fun _ _ => rfl)).symm
  | cons g gs ih =>
    intro l
    rw [List.foldl_cons, ih, List.filter_filter]
    apply List.filter_congr
    intro e _
    rw [List.all_cons, Bool.and_comm]
theorem leftR_eq (l : List Ev) : leftR l = leftL l := by
  unfold leftR leftL
  rw [foldl_filter]
  apply List.filter_congr
  intro e _
  rw [Bool.eq_iff_iff, leftE_iff, List.all_eq_true]
  constructor
  · intro h
    by_cases hk : e.kind = 14
    · exact .inl hk
    · refine .inr fun g hg hg14 hp => ?_
      have h9 := h e.person ((goneR_memF e.person l []).2 (.inr ⟨g, hg, hg14, hp⟩))
      unfold keepE at h9
      rw [beqB_self] at h9
      simp [hk] at h9
  · rintro (h | h) g hg
    · unfold keepE; simp [h]
    · rcases (goneR_memF g l []).1 hg with h9 | ⟨y, hy, h14, hp⟩
      · cases h9
      · unfold keepE
        have hne : (e.person == g) = false := by
          rw [Bool.eq_false_iff]; intro h8
          have := beqB_iff.1 h8
          exact h y hy h14 (by rw [hp, this])
        rw [hne]; rfl
theorem filter_at {p : Ev → Bool} {l : List Ev} {k : Nat} {e : Ev} (h : l[k]? = some e) : (l.take (k + 1)).filter p = if p e = true then (l.take k).filter p ++ [e] else (l.take k).filter p := by
  rw [List.take_add_one, h, List.filter_append]
  cases h9 : p e <;> simp [h9]
set_option maxRecDepth 100000 in
set_option maxHeartbeats 4000000 in
theorem rf_Without (A : Option Addr) (n c : Nat) (l : List Ev) (p : ByteArray) (ok : Nat → Prop) (w : World) (hs : Sl evR ok w A n l) (hn : n ≤ 100000) :
    Calls Tryz.prog 63 #[.slice A n c, .string p] w fun r w' => ∃ B m cb, r = .returned (.slice B m cb) ∧ m ≤ n ∧ Own evR 30 (fun _ => True) w' w.heap.size (.slice B m cb) m (l.filter (keepE p)) ∧ Ext w w' := by
  have Hs := Lib.hid hs
  have Hl := Lib.hid hs.1
  obtain ⟨i0, hi0, hz0, hz1, hz2⟩ := info_part3 info_apiEv
  clear hs
  go_enter Tryz.func63, Tryz.ntmps63
  go_wp2_with fail
  go_loopw [5, 6] (fun v i wr => ∃ (k q : Nat) (B : Option Addr) (cb : Nat), k ≤ n ∧ q ≤ k ∧ i = .int .i64 k ∧ v = .slice B q cb ∧ Own evR 30 (fun _ => True) wr w.heap.size (.slice B q cb) q ((l.take k).filter (keepE p)) ∧ Ext w wr) (fun _ i _ => n - (intOf i).toNat)
  case atStart => exact ⟨0, 0, _, 0, Nat.zero_le _, Nat.le_refl _, rfl, rfl, Own.new_nil (blk_new _ _) (Nat.le_refl _), (Keeps.refl _ _).alloc _⟩
  case round =>
    obtain ⟨k, q, B, cb, hk, hqk, rfl, rfl, hown, hx⟩ := hrel
    have Hown := Lib.hid hown
    have Hx := Lib.hid hx
    have hsz := hx.size
    clear hown hx
    by_cases hlt : k < n
    · obtain ⟨b, o, e, rfl, hb, _, he, d0, d1, d2, d3, d4, d5, d6, d7⟩ := (Hs.out.ext Hx.out).ev hlt
      have j0 : (0 : Int) ≤ (k : Int) := by omega
      have j1 : (k : Int) < (n : Int) := by omega
      have Hf := Lib.hid (filter_at (p := keepE p) he)
      have hpe : (e.person == p) = (e.person.toList == p.toList) := beq_toListBytes _ _
      clear he
      cases hm : (e.person == p)
      · rw [hm] at hpe
        have hpe' := hpe.symm
        have Hst := Lib.hid (show (l.take (k + 1)).filter (keepE p) = (l.take k).filter (keepE p) ++ [e] by rw [Hf.out, if_pos (by simp [keepE, hm])])
        clear hpe hm
        go_wp2_with (at_builtin; refine wpList_append_Own (ok := fun _ => True) (R := evR) _ rfl (.tmp 29) (.tmp 34) 22 rfl 30 i0 _ 96 w.heap.size Tryz.underlying22 hi0 hz0 hz1 hz2 rfl (by decide) rfl (Hown.out.alloc _) _ 1 1 [e] rfl (Srcs.one_new rfl (blk_new _ _) rfl) (by omega) (by decide) (by simp; omega) ?_; intro A8 c8 w8 hown8 hg8 hat8; have Hown8 := Lib.hid hown8; have Hx8 := Lib.hid (show Ext w w8 from Keeps.grown (Hx.out.alloc _) hg8 (fun g hg hl => by have := (Hown.out.lt g hg).1; omega)); clear hown8 hg8 hat8)
        go_roundw
        case rel => exact ⟨k + 1, q + 1, A8, c8, by omega, by omega, by go_num, rfl, by rw [Hst.out]; exact Hown8.out, Hx8.out⟩
        case measure => simp [intOf]; omega
      · rw [hm] at hpe
        have hpe' := hpe.symm
        by_cases h14 : e.kind = 14
        · have Hst := Lib.hid (show (l.take (k + 1)).filter (keepE p) = (l.take k).filter (keepE p) ++ [e] by rw [Hf.out, if_pos (by simp [keepE, h14])])
          have h14' : (e.kind == 14) = true := by simpa using h14
          clear hpe hm h14
          go_wp2_with (at_builtin; refine wpList_append_Own (ok := fun _ => True) (R := evR) _ rfl (.tmp 29) (.tmp 34) 22 rfl 30 i0 _ 96 w.heap.size Tryz.underlying22 hi0 hz0 hz1 hz2 rfl (by decide) rfl (Hown.out.alloc _) _ 1 1 [e] rfl (Srcs.one_new rfl (blk_new _ _) rfl) (by omega) (by decide) (by simp; omega) ?_; intro A8 c8 w8 hown8 hg8 hat8; have Hown8 := Lib.hid hown8; have Hx8 := Lib.hid (show Ext w w8 from Keeps.grown (Hx.out.alloc _) hg8 (fun g hg hl => by have := (Hown.out.lt g hg).1; omega)); clear hown8 hg8 hat8)
          go_roundw
          case rel => exact ⟨k + 1, q + 1, A8, c8, by omega, by omega, by go_num, rfl, by rw [Hst.out]; exact Hown8.out, Hx8.out⟩
          case measure => simp [intOf]; omega
        · have Hst := Lib.hid (show (l.take (k + 1)).filter (keepE p) = (l.take k).filter (keepE p) by rw [Hf.out, if_neg (by simp [keepE, hm, h14])])
          have h14' : (e.kind == 14) = false := by simpa using h14
          clear hpe hm h14
          go_wp2_with fail
          go_roundw
          case rel => exact ⟨k + 1, q, B, cb, by omega, by omega, by go_num, rfl, by rw [Hst.out]; exact Hown.out, Hx.out⟩
          case measure => simp [intOf]; omega
    · obtain rfl : k = n := by omega
      have h9 := Hown.out
      rw [List.take_of_length_le (Nat.le_of_eq Hl.out)] at h9
      have HE := Lib.hid h9
      clear h9
      go_wp2_with fail
      go_ret
      exact ⟨B, q, cb, rfl, hqk, HE.out, Hx.out⟩
set_option maxRecDepth 100000 in
set_option maxHeartbeats 4000000 in
theorem rf_Gone (A : Option Addr) (n c : Nat) (l : List Ev) (ok : Nat → Prop) (w : World) (hs : Sl evR ok w A n l) (hn : n ≤ 100000) :
    Calls Tryz.prog 62 #[.slice A n c] w fun r w' => ∃ B m cb, r = .returned (.slice B m cb) ∧ m ≤ n ∧ Own strR 9 (fun _ => True) w' w.heap.size (.slice B m cb) m (goneR l) ∧ Ext w w' := by
  have Hs := Lib.hid hs
  have Hl := Lib.hid hs.1
  clear hs
  go_enter Tryz.func62, Tryz.ntmps62
  go_wp2_with fail
  go_loopw [3, 4] (fun v i wr => ∃ (k q : Nat) (B : Option Addr) (cb : Nat), k ≤ n ∧ i = .int .i64 k ∧ v = .slice B q cb ∧ Own strR 9 (fun _ => True) wr w.heap.size (.slice B q cb) q (goneR (l.take k)) ∧ Ext w wr) (fun _ i _ => n - (intOf i).toNat)
  case atStart => exact ⟨0, 0, _, 0, Nat.zero_le _, rfl, rfl, Own.new_nil (blk_new _ _) (Nat.le_refl _), (Keeps.refl _ _).alloc _⟩
  case round =>
    obtain ⟨k, q, B, cb, hk, rfl, rfl, hown, hx⟩ := hrel
    have Hown := Lib.hid hown
    have Hx := Lib.hid hx
    have hsz := hx.size
    have hq : q ≤ 100000 := by have h1 := gone_len (l.take k); have h2 : (l.take k).length ≤ k := List.length_take_le _ _; have := hown.1; omega
    clear hown hx
    by_cases hlt : k < n
    · obtain ⟨b, o, e, rfl, hb, _, he, d0, d1, d2, d3, d4, d5, d6, d7⟩ := (Hs.out.ext Hx.out).ev hlt
      have j0 : (0 : Int) ≤ (k : Int) := by omega
      have j1 : (k : Int) < (n : Int) := by omega
      have Hst := Lib.hid (gone_snoc he)
      have HP := Lib.hid (rf_PutX B q cb (goneR (l.take k)) e.person w.heap.size wr Hown.out hq)
      clear he
      by_cases h14 : e.kind = 14
      · have h14' : (e.kind == 14) = true := by simpa using h14
        have Hs2 := Lib.hid (show goneR (l.take (k + 1)) = putT (goneR (l.take k)) e.person by rw [Hst.out]; unfold goneStep; rw [if_pos h14])
        clear h14
        go_wp2_with (go_at_call 40; refine HP.out.mono ?_; rintro _ Z ⟨B2, m2, cb2, rfl, ⟨base', hb', hown2⟩, hx2⟩; have Hown2 := Lib.hid (hown2.le (show w.heap.size ≤ base' by rcases hb' with h | h <;> omega)); have Hx2 := Lib.hid (Hx.out.trans hx2); clear hown2 hx2 hb')
        go_roundw
        case rel => exact ⟨k + 1, m2, B2, cb2, by omega, by go_num, rfl, by rw [Hs2.out]; exact Hown2.out, Hx2.out⟩
        case measure => simp [intOf]; omega
      · have h14' : (e.kind == 14) = false := by simpa using h14
        have Hs2 := Lib.hid (show goneR (l.take (k + 1)) = goneR (l.take k) by rw [Hst.out]; unfold goneStep; rw [if_neg h14])
        clear h14
        go_wp2_with fail
        go_roundw
        case rel => exact ⟨k + 1, q, B, cb, by omega, by go_num, rfl, by rw [Hs2.out]; exact Hown.out, Hx.out⟩
        case measure => simp [intOf]; omega
    · obtain rfl : k = n := by omega
      have h9 := Hown.out
      rw [List.take_of_length_le (Nat.le_of_eq Hl.out)] at h9
      have HE := Lib.hid h9
      have hqn : q ≤ k := by have h1 := gone_len l; have := h9.1; have := Hl.out; omega
      clear h9
      go_wp2_with fail
      go_ret
      exact ⟨B, q, cb, rfl, hqn, HE.out, Hx.out⟩
def leftTo (gs : List ByteArray) (l : List Ev) : List Ev := gs.foldl (fun out g => out.filter (keepE g)) l
theorem left_snoc {gs : List ByteArray} {k : Nat} {g : ByteArray} (l : List Ev) (h : gs[k]? = some g) : leftTo (gs.take (k + 1)) l = (leftTo (gs.take k) l).filter (keepE g) := by
  unfold leftTo; rw [List.take_add_one, h, List.foldl_append]; rfl
set_option maxRecDepth 100000 in
set_option maxHeartbeats 4000000 in
theorem rf_Left (A : Option Addr) (n c : Nat) (l : List Ev) (ok : Nat → Prop) (w : World) (hs : Sl evR ok w A n l) (hn : n ≤ 100000) :
    Calls Tryz.prog 38 #[.slice A n c] w fun r w' => ∃ B m cb, r = .returned (.slice B m cb) ∧ m ≤ n ∧ Sl evR (fun _ => True) w' B m (leftL l) ∧ Ext w w' := by
  have Hs := Lib.hid (hs.mono (ok' := fun _ => True) (fun _ _ _ => trivial))
  have HG := Lib.hid (rf_Gone A n c l ok w hs hn)
  have Hq := Lib.hid (show leftTo (goneR l) l = leftL l from leftR_eq l)
  obtain ⟨gs, hgs⟩ : ∃ gs, gs = goneR l := ⟨_, rfl⟩
  rw [← hgs] at HG Hq
  clear hs hgs
  go_enter Tryz.func38, Tryz.ntmps38
  go_wp2_with (go_at_call 62; refine HG.out.mono ?_; rintro _ X ⟨B, m, cb, rfl, hmn, hown, hxX⟩; have Hgl := Lib.hid hown.1; have Hgo := Lib.hid hown.strSl; have HxX := Lib.hid hxX; clear hown hxX)
  go_loopw [4, 5] (fun v i wr => ∃ (k : Nat) (A2 : Option Addr) (n2 c2 : Nat), k ≤ m ∧ i = .int .i64 k ∧ v = .slice A2 n2 c2 ∧ n2 ≤ n ∧ Sl evR (fun _ => True) wr A2 n2 (leftTo (gs.take k) l) ∧ Ext X wr) (fun _ i _ => m - (intOf i).toNat)
  case atStart => exact ⟨0, A, n, c, Nat.zero_le _, rfl, rfl, Nat.le_refl _, Hs.out.ext HxX.out, Keeps.refl _ _⟩
  case round =>
    obtain ⟨k, A2, n2, c2, hk, rfl, rfl, hn2, hsl, hx⟩ := hrel
    have Hsl := Lib.hid hsl
    have Hx := Lib.hid hx
    clear hsl hx
    by_cases hlt : k < m
    · obtain ⟨b, o, s, rfl, hb, _, hs1, hc1⟩ := (Hgo.out.ext Hx.out).str hlt
      have j0 : (0 : Int) ≤ (k : Int) := by omega
      have j1 : (k : Int) < (m : Int) := by omega
      have Hst := Lib.hid (left_snoc l hs1)
      have HW := Lib.hid (rf_Without A2 n2 c2 (leftTo (gs.take k) l) s _ wr Hsl.out (by omega))
      clear hs1
      go_wp2_with (go_at_call 63; refine HW.out.mono ?_; rintro _ Z ⟨B2, m2, cb2, rfl, hm2, hown2, hx2⟩; have Hown2 := Lib.hid (show Sl evR (fun _ => True) Z B2 m2 _ from hown2.sl (fun _ _ _ _ => trivial) (fun _ _ _ => trivial)); have Hx2 := Lib.hid (Hx.out.trans hx2); clear hown2 hx2)
      go_roundw
      case rel => exact ⟨k + 1, B2, m2, cb2, by omega, by go_num, rfl, by omega, by rw [Hst.out]; exact Hown2.out, Hx2.out⟩
      case measure => simp [intOf]; omega
    · obtain rfl : k = m := by omega
      have h9 := Hsl.out
      rw [List.take_of_length_le (Nat.le_of_eq Hgl.out), Hq.out] at h9
      have HE := Lib.hid h9
      clear h9
      go_wp2_with fail
      go_ret
      exact ⟨A2, n2, c2, rfl, hn2, HE.out, HxX.out.trans Hx.out⟩
set_option maxRecDepth 100000 in
set_option maxHeartbeats 4000000 in
theorem rf_Anew (A : Option Addr) (n c : Nat) (l : List Ev) (ok : Nat → Prop) (w : World) (hs : Sl evR ok w A n l) (hn : n ≤ 100000) (hmay : ∀ e ∈ l, mayE e = true) :
    Calls Tryz.prog 17 #[.slice A n c] w fun r w' => ∃ B m cb, r = .returned (.slice B m cb) ∧ m ≤ n ∧ EvsAt w.heap.size w' B m (anewE l) ∧ Ext w w' := by
  have HO := Lib.hid (rf_Once A n c l ok w hs hn hmay)
  have Hq := Lib.hid (show sortL lessE (leftL (onceL l)) = anewE l from rfl)
  obtain ⟨ol, hol⟩ : ∃ ol, ol = onceL l := ⟨_, rfl⟩
  rw [← hol] at HO Hq
  clear hs hmay hol
  go_enter Tryz.func17, Tryz.ntmps17
  go_wp2_with (go_at_call 39; refine HO.out.mono ?_; rintro _ X ⟨B, m, cb, rfl, hmn, hown, hxX⟩; have HL := Lib.hid (rf_Left B m cb ol (fun _ => True) X (hown.sl (fun _ _ _ _ => trivial) (fun _ _ _ => trivial)) (by omega)); have HxX := Lib.hid hxX; clear hown hxX)
  refine HL.out.mono ?_
  rintro _ Y ⟨B2, m2, cb2, rfl, hm2, hsl2, hxY⟩
  have HS := Lib.hid (ref_Sort B2 m2 cb2 (leftL ol) _ Y hsl2 (by omega))
  have HxY := Lib.hid (HxX.out.trans hxY)
  clear hsl2 hxY
  go_wp2_with (go_at_call 37; refine HS.out.mono ?_; rintro _ Z ⟨B3, cb3, rfl, _, hev, hxZ⟩; have Hev := Lib.hid (hev.le HxY.out.size); have HxZ := Lib.hid (HxY.out.trans hxZ); clear hev hxZ)
  go_ret
  exact ⟨B3, m2, cb3, rfl, by omega, by rw [← Hq.out]; exact Hev.out, HxZ.out⟩
end Go.Proofs.YtpkkkhgmkndpdaaGreatDoor
namespace Go.Proofs.YtpkkkhgmkndpdaaGreatDoor
open Go Go.RowKit Go.Proofs
attribute [local go_sem ↓] Go.wp_at_zero Go.wp_at_succ
set_option maxRecDepth 100000 in
set_option maxHeartbeats 2000000 in
theorem rf_took (e : Ev) (w : World) : Calls Tryz.prog 19 #[.agg #[.string e.src, .int .i64 e.num, .int .i64 e.tick, .int .i64 e.kind, .string e.person, .string e.item, .int .i64 e.value, .string e.text]] w fun r w' => r = .returned (.bool (tookE e)) ∧ Ext w w' := by
  have Hx := Lib.hid (fun o => show Ext w (w.alloc o) from (Keeps.refl _ _).alloc o)
  cases h2 : (e.kind == 2)
  · cases h3 : (e.kind == 3)
    · have Hf := Lib.hid (show tookE e = false by unfold tookE; rw [Bool.or_eq_false_iff, decide_eq_false_iff_not, decide_eq_false_iff_not]; simp at h2 h3; exact ⟨h2, h3⟩)
      go_enter Tryz.func19, Tryz.ntmps19
      go_wp2_with fail
      go_ret
      exact ⟨by rw [Hf.out]; rfl, Hx.out _⟩
    · have Hf := Lib.hid (show tookE e = true by unfold tookE; rw [Bool.or_eq_true, decide_eq_true_eq, decide_eq_true_eq]; simp at h2 h3; exact .inr h3)
      go_enter Tryz.func19, Tryz.ntmps19
      go_wp2_with fail
      go_ret
      exact ⟨by rw [Hf.out]; rfl, Hx.out _⟩
  · have Hf := Lib.hid (show tookE e = true by unfold tookE; rw [Bool.or_eq_true, decide_eq_true_eq, decide_eq_true_eq]; simp at h2; exact .inl h2)
    go_enter Tryz.func19, Tryz.ntmps19
    go_wp2_with fail
    go_ret
    exact ⟨by rw [Hf.out]; rfl, Hx.out _⟩
theorem hadF_len (p : ByteArray) (d : Int) : ∀ (l : List Ev) (s : List ByteArray × List ByteArray), (l.foldl (hadStep p d) s).1.length ≤ s.1.length + l.length ∧ (l.foldl (hadStep p d) s).2.length ≤ s.2.length + l.length
  | [], s => by simp
  | e :: l, s => by
    rw [List.foldl_cons]
    have h1 := hadF_len p d l (hadStep p d s e)
    have h2 : (hadStep p d s e).1.length ≤ s.1.length + 1 ∧ (hadStep p d s e).2.length ≤ s.2.length + 1 := by
      unfold hadStep
      split
      · refine ⟨?_, ?_⟩
        · simp only
          split
          · exact putT_len _ _
          · omega
        · simp only
          split
          · exact putT_len _ _
          · omega
      · omega
    simp only [List.length_cons]
    omega
theorem had_len (l : List Ev) (p : ByteArray) (d : Int) : (hadS l p d).1.length ≤ l.length ∧ (hadS l p d).2.length ≤ l.length := by have := hadF_len p d l ([], []); simpa [hadS] using this
set_option maxRecDepth 100000 in
set_option maxHeartbeats 8000000 in
theorem rf_items (A : Option Addr) (n c : Nat) (l : List Ev) (p : ByteArray) (d : Int) (ok : Nat → Prop) (w : World) (hs : Sl evR ok w A n l) (hn : n ≤ 100000) (hmay : ∀ e ∈ l, mayE e = true) :
    Calls Tryz.prog 18 #[.slice A n c, .string p, .int .i64 d] w fun r w' => ∃ B m cb, r = .returned (.slice B m cb) ∧ Own strR 9 (fun _ => True) w' w.heap.size (.slice B m cb) m (itemsR l p d) ∧ Ext w w' := by
  have Hs := Lib.hid hs
  have Hl := Lib.hid hs.1
  have Hmay := Lib.hid hmay
  clear hs hmay
  go_enter Tryz.func18, Tryz.ntmps18
  go_wp2_with fail
  go_loopw [7, 8, 9] (fun v1 v2 i wr => ∃ (k q1 q2 : Nat) (B1 B2 : Option Addr) (c1 c2 : Nat), k ≤ n ∧ i = .int .i64 k ∧ v1 = .slice B1 q1 c1 ∧ v2 = .slice B2 q2 c2 ∧ Own strR 9 (fun _ => True) wr w.heap.size (.slice B1 q1 c1) q1 (hadS (l.take k) p d).1 ∧ Own strR 9 (fun _ => True) wr w.heap.size (.slice B2 q2 c2) q2 (hadS (l.take k) p d).2 ∧ Ext w wr) (fun _ _ i _ => n - (intOf i).toNat)
  case atStart => exact ⟨0, 0, 0, _, _, 0, 0, Nat.zero_le _, rfl, rfl, rfl, (Own.new_nil (blk_new _ _) (Nat.le_refl _)).alloc _, Own.new_nil (blk_new_ _ _ (by simp)) (by simp), ((Keeps.refl _ _).alloc _).alloc _⟩
  case round =>
    obtain ⟨k, q1, q2, B1, B2, c1, c2, hk, rfl, rfl, rfl, ho1, ho2, hx⟩ := hrel
    have hlen := had_len (l.take k) p d
    have hlk : (l.take k).length ≤ k := List.length_take_le _ _
    have hq1 : q1 ≤ 100000 := by have := ho1.1; omega
    have hq2 : q2 ≤ 100000 := by have := ho2.1; omega
    by_cases hlt : k < n
    · obtain ⟨b, o, e, rfl, hb, _, he, d0, d1, d2, d3, d4, d5, d6, d7⟩ := (Hs.out.ext hx).ev hlt
      have j0 : (0 : Int) ≤ (k : Int) := by omega
      have j1 : (k : Int) < (n : Int) := by omega
      have Hst := Lib.hid (had_snoc (p := p) (d := d) he)
      have Hme := Lib.hid (Hmay.out e (List.mem_of_getElem? he))
      obtain ⟨s, hS⟩ : ∃ s, s = hadS (l.take k) p d := ⟨_, rfl⟩
      rw [← hS] at ho1 ho2 Hst
      have Ho1 := Lib.hid ho1
      have Ho2 := Lib.hid ho2
      have Hx := Lib.hid hx
      have HT := Lib.hid (rf_took e wr)
      obtain ⟨tk, htk⟩ : ∃ t, t = tookE e := ⟨_, rfl⟩
      rw [← htk] at HT
      have Htk := Lib.hid htk
      have hpe : (e.person == p) = (e.person.toList == p.toList) := beq_toListBytes _ _
      clear he hS ho1 ho2 hx htk hlen hlk
      cases tk
      · have Hn := Lib.hid (show hadS (l.take (k + 1)) p d = s by rw [Hst.out]; unfold hadStep; rw [← Htk.out]; rfl)
        clear hpe
        go_wp2_with (go_at_call 19; refine HT.out.mono ?_; rintro _ Z ⟨rfl, hxZ⟩; have HxZ := Lib.hid hxZ; clear hxZ)
        go_roundw
        case rel => exact ⟨k + 1, q1, q2, B1, B2, c1, c2, by omega, by go_num, rfl, rfl, by rw [Hn.out]; exact Ho1.out.ext HxZ.out, by rw [Hn.out]; exact Ho2.out.ext HxZ.out, Hx.out.trans HxZ.out⟩
        case measure => simp [intOf]; omega
      · cases hm : (e.person == p)
        · rw [hm] at hpe
          have hpe' := hpe.symm
          have Hn := Lib.hid (show hadS (l.take (k + 1)) p d = s by rw [Hst.out]; unfold hadStep; rw [hm]; simp)
          clear hpe hm
          go_wp2_with (go_at_call 19; refine HT.out.mono ?_; rintro _ Z ⟨rfl, hxZ⟩; have HxZ := Lib.hid hxZ; have e4 := (hxZ.cell (p := ⟨b, o + k * 8 + 4, none⟩) hb trivial).trans d4; have hbZ : b < Z.heap.size := Nat.lt_of_lt_of_le hb hxZ.size; clear hxZ)
          go_roundw
          case rel => exact ⟨k + 1, q1, q2, B1, B2, c1, c2, by omega, by go_num, rfl, rfl, by rw [Hn.out]; exact Ho1.out.ext HxZ.out, by rw [Hn.out]; exact Ho2.out.ext HxZ.out, Hx.out.trans HxZ.out⟩
          case measure => simp [intOf]; omega
        · rw [hm] at hpe
          have hpe' := hpe.symm
          have Hn := Lib.hid (show hadS (l.take (k + 1)) p d = (if dayE e < d then putT s.1 e.item else s.1, if dayE e = d ∧ inT s.1 e.item = false then putT s.2 e.item else s.2) by rw [Hst.out]; unfold hadStep; rw [hm, ← Htk.out]; rfl)
          have ht2 := (head_tick Hme.out).1
          have ht3 := (head_tick Hme.out).2
          clear hpe hm
          go_upto_region 6 with (go_at_call 19; refine HT.out.mono ?_; rintro _ Z ⟨rfl, hxZ⟩; have HxZ := Lib.hid hxZ; have e4 := (hxZ.cell (p := ⟨b, o + k * 8 + 4, none⟩) hb trivial).trans d4; have e2 := (hxZ.cell (p := ⟨b, o + k * 8 + 2, none⟩) hb trivial).trans d2; have e5 := (hxZ.cell (p := ⟨b, o + k * 8 + 5, none⟩) hb trivial).trans d5; have hbZ : b < Z.heap.size := Nat.lt_of_lt_of_le hb hxZ.size; clear hxZ)
          have HoZ1 := Lib.hid (Ho1.out.ext HxZ.out)
          have HoZ2 := Lib.hid (Ho2.out.ext HxZ.out)
          have HwZ := Lib.hid (Hx.out.trans HxZ.out)
          clear d0 d1 d2 d3 d4 d5 d6 d7
          rcases Int.lt_trichotomy (e.tick / 86400) d with h | h | h
          · have hd2 : ¬ (e.tick / 86400 = d) := by omega
            have hd3 : decide (e.tick / 86400 < d) = true := by simpa using h
            have hd4 : decide (e.tick / 86400 = d) = false := by simpa using hd2
            have Hn2 := Lib.hid (show hadS (l.take (k + 1)) p d = (putT s.1 e.item, s.2) by rw [Hn.out]; unfold dayE; rw [if_pos h, if_neg (fun h9 => hd2 h9.1)])
            have HP := Lib.hid (rf_PutX B1 q1 c1 s.1 e.item w.heap.size Z HoZ1.out hq1)
            go_wp2_with (go_at_call 40; refine HP.out.mono ?_; rintro _ Y ⟨B3, m3, cb3, rfl, ⟨base', hb', hown3⟩, hxY⟩; have Hown3 := Lib.hid (hown3.le (show w.heap.size ≤ base' by have := HwZ.out.size; rcases hb' with h | h <;> omega)); have HxY := Lib.hid hxY; have y2 := (hxY.cell (p := ⟨b, o + k * 8 + 2, none⟩) hbZ trivial).trans e2; have y5 := (hxY.cell (p := ⟨b, o + k * 8 + 5, none⟩) hbZ trivial).trans e5; have hbY : b < Y.heap.size := Nat.lt_of_lt_of_le hbZ hxY.size; clear hown3 hxY hb')
            go_roundw
            case rel => exact ⟨k + 1, m3, q2, B3, B2, cb3, c2, by omega, by go_num, rfl, rfl, by rw [Hn2.out]; exact Hown3.out, by rw [Hn2.out]; exact HoZ2.out.ext HxY.out, HwZ.out.trans HxY.out⟩
            case measure => simp [intOf]; omega
          · have hd1 : ¬ (e.tick / 86400 < d) := by omega
            have hd3 : decide (e.tick / 86400 < d) = false := by simpa using hd1
            have hd4 : decide (e.tick / 86400 = d) = true := by simpa using h
            have HIn := Lib.hid (rf_InX B1 q1 c1 s.1 e.item _ Z HoZ1.out.strSl (by omega))
            obtain ⟨bi, hbi⟩ : ∃ b, b = inT s.1 e.item := ⟨_, rfl⟩
            rw [← hbi] at HIn
            have Hn2 := Lib.hid (show hadS (l.take (k + 1)) p d = (s.1, if bi = false then putT s.2 e.item else s.2) by rw [Hn.out, hbi]; unfold dayE; rw [if_neg hd1]; congr 1; by_cases h9 : inT s.1 e.item = false; rw [if_pos h9, if_pos ⟨h, h9⟩]; rw [if_neg h9, if_neg (fun h8 => h9 h8.2)])
            have Hh := Lib.hid h
            clear hbi h
            cases bi
            · have Hn3 := Lib.hid (show hadS (l.take (k + 1)) p d = (s.1, putT s.2 e.item) from Hn2.out)
              have HP := Lib.hid (fun (Y : World) (hxY : Ext Z Y) => rf_PutX B2 q2 c2 s.2 e.item w.heap.size Y (HoZ2.out.ext hxY) hq2)
              go_wp2_with (first
                | (go_at_call 41; refine HIn.out.mono ?_; rintro _ Y ⟨rfl, hxY⟩; have HxY := Lib.hid hxY; have y5 := (hxY.cell (p := ⟨b, o + k * 8 + 5, none⟩) hbZ trivial).trans e5; have hbY : b < Y.heap.size := Nat.lt_of_lt_of_le hbZ hxY.size; clear hxY)
                | (go_at_call 40; refine (HP.out _ HxY.out).mono ?_; rintro _ V ⟨B3, m3, cb3, rfl, ⟨base', hb', hown3⟩, hxV⟩; have Hown3 := Lib.hid (hown3.le (show w.heap.size ≤ base' by have := HwZ.out.size; have := HxY.out.size; rcases hb' with h | h <;> omega)); have HxV := Lib.hid (HxY.out.trans hxV); clear hown3 hxV hb'))
              go_roundw
              case rel => exact ⟨k + 1, q1, m3, B1, B3, c1, cb3, by omega, by go_num, rfl, rfl, by rw [Hn3.out]; exact HoZ1.out.ext HxV.out, by rw [Hn3.out]; exact Hown3.out, HwZ.out.trans HxV.out⟩
              case measure => simp [intOf]; omega
            · have Hn3 := Lib.hid (show hadS (l.take (k + 1)) p d = (s.1, s.2) from Hn2.out)
              go_wp2_with (go_at_call 41; refine HIn.out.mono ?_; rintro _ Y ⟨rfl, hxY⟩; have HxY := Lib.hid hxY; clear hxY)
              go_roundw
              case rel => exact ⟨k + 1, q1, q2, B1, B2, c1, c2, by omega, by go_num, rfl, rfl, by rw [Hn3.out]; exact HoZ1.out.ext HxY.out, by rw [Hn3.out]; exact HoZ2.out.ext HxY.out, HwZ.out.trans HxY.out⟩
              case measure => simp [intOf]; omega
          · have hd1 : ¬ (e.tick / 86400 < d) := by omega
            have hd2 : ¬ (e.tick / 86400 = d) := by omega
            have hd3 : decide (e.tick / 86400 < d) = false := by simpa using hd1
            have hd4 : decide (e.tick / 86400 = d) = false := by simpa using hd2
            have Hn2 := Lib.hid (show hadS (l.take (k + 1)) p d = s by rw [Hn.out]; unfold dayE; rw [if_neg hd1, if_neg (fun h9 => hd2 h9.1)])
            clear h
            go_wp2_with fail
            go_roundw
            case rel => exact ⟨k + 1, q1, q2, B1, B2, c1, c2, by omega, by go_num, rfl, rfl, by rw [Hn2.out]; exact HoZ1.out, by rw [Hn2.out]; exact HoZ2.out, HwZ.out⟩
            case measure => simp [intOf]; omega
    · obtain rfl : k = n := by omega
      rw [List.take_of_length_le (Nat.le_of_eq Hl.out)] at ho2
      have HE := Lib.hid ho2
      have Hx := Lib.hid hx
      clear ho1 ho2 hx hlen hlk
      go_wp2_with fail
      go_ret
      exact ⟨B2, q2, c2, rfl, HE.out, Hx.out⟩
theorem Sl.cas {ok : Nat → Prop} {w : World} {A : Option Addr} {n : Nat} {l : List Cas} (h : Sl casR ok w A n l) {k : Nat} (hk : k < n) : ∃ (b o : Nat) (e : Cas) (A' : Option Addr) (c' : Nat), A = some ⟨b, o, none⟩ ∧ b < w.heap.size ∧ ok b ∧ l[k]? = some e ∧ e.items.length ≤ c' ∧ Sl strR ok w A' e.items.length e.items ∧
    w.cell? ⟨b, o + k * 3, none⟩ = some (.string e.person) ∧ w.cell? ⟨b, o + k * 3 + 1, none⟩ = some (.int .i64 e.tick) ∧ w.cell? ⟨b, o + k * 3 + 2, none⟩ = some (.slice A' e.items.length c') := by
  obtain ⟨b, o, e, xs, rfl, hb, ho, he, ⟨A', c', rfl, hc', hs⟩, hc⟩ := h.at_ hk
  exact ⟨b, o, e, A', c', rfl, hb, ho, he, hc', hs, hc 0 _ rfl, hc 1 _ rfl, hc 2 _ rfl⟩
set_option maxRecDepth 100000 in
set_option maxHeartbeats 4000000 in
theorem rf_there (A : Option Addr) (n c : Nat) (l : List Cas) (p : ByteArray) (t : Int) (ok : Nat → Prop) (w : World) (hs : Sl casR ok w A n l) (hn : n ≤ 1000000) :
    Calls Tryz.prog 20 #[.slice A n c, .string p, .int .i64 t] w fun r w' => r = .returned (.bool (thereL l p t)) ∧ w = w' := by
  have Hs := Lib.hid hs
  have Hl := Lib.hid hs.1
  clear hs
  go_enter Tryz.func20, Tryz.ntmps20
  go_wp2_with fail
  go_loop [7] (fun i => ∃ k : Nat, k ≤ n ∧ i = .int .i64 k ∧ thereL (l.take k) p t = false) (fun i => n - (intOf i).toNat)
  case atStart => exact ⟨0, Nat.zero_le _, rfl, rfl⟩
  case round =>
    obtain ⟨k, hk, rfl, hal⟩ := hrel
    have Hal := Lib.hid hal
    clear hal
    by_cases hlt : k < n
    · obtain ⟨b, o, e, A', c', rfl, hb, _, he, _, _, d0, d1, d2⟩ := Hs.out.cas hlt
      have j0 : (0 : Int) ≤ (k : Int) := by omega
      have j1 : (k : Int) < (n : Int) := by omega
      have He := Lib.hid he
      have hpe : (e.person == p) = (e.person.toList == p.toList) := beq_toListBytes _ _
      clear he
      cases hm : (e.person == p)
      · rw [hm] at hpe
        have hpe' := hpe.symm
        have Hn := Lib.hid (show thereL (l.take (k + 1)) p t = false by unfold thereL at *; rw [List.take_add_one, He.out, List.any_append, Hal.out]; simp [hm])
        clear hpe hm
        go_wp2_with fail
        go_round
        case rel => exact ⟨k + 1, by omega, by go_num, Hn.out⟩
        case measure => simp [intOf]; omega
      · rw [hm] at hpe
        have hpe' := hpe.symm
        cases ht : (e.tick == t)
        · have Hn := Lib.hid (show thereL (l.take (k + 1)) p t = false by
            have h8 : ¬ e.tick = t := by simpa using ht
            unfold thereL at *; rw [List.take_add_one, He.out, List.any_append, Hal.out]; simp [h8])
          clear hpe hm
          go_wp2_with fail
          go_round
          case rel => exact ⟨k + 1, by omega, by go_num, Hn.out⟩
          case measure => simp [intOf]; omega
        · have Hn := Lib.hid (show thereL l p t = true by
            have h8 : e.tick = t := by simpa using ht
            exact List.any_eq_true.2 ⟨e, List.mem_of_getElem? He.out, by simp [hm, h8]⟩)
          clear hpe hm
          go_wp2_with fail
          go_ret
          exact ⟨by rw [Hn.out]; rfl, rfl⟩
    · obtain rfl : k = n := by omega
      have Hf := Lib.hid (show thereL l p t = false by have h9 := Hal.out; rw [List.take_of_length_le (Nat.le_of_eq Hl.out)] at h9; exact h9)
      go_wp2_with fail
      go_ret
      exact ⟨by rw [Hf.out]; rfl, rfl⟩
end Go.Proofs.YtpkkkhgmkndpdaaGreatDoor
namespace Go.Proofs.YtpkkkhgmkndpdaaGreatDoor
open Go Go.RowKit Go.Proofs
attribute [local go_sem ↓] Go.wp_at_zero Go.wp_at_succ
theorem gtr_strK (t : TypeId) (a b : ByteArray) : binOp .gtr t (.string a) (.string b) = pure (.bool !(Op.bytesLess a.toList b.toList || a.toList == b.toList)) := by simp [binOp, Op.stringOp]
attribute [local go_sem] gtr_strK
/-- One is put where those ahead aren't behind it, and those behind are. -/
theorem put_here {out : List Cas} {x : Cas} {j : Nat} (hr : Ris casLt out) (h1 : ∀ z, (out.take j).getLast? = some z → casLt x z = false) (h2 : ∀ y ∈ out.drop j, casLt x y = true) : putE casLt out x = out.take j ++ [x] ++ out.drop j := by
  rw [List.append_assoc, List.singleton_append]
  refine put_at (fun y hy => ?_) h2
  have hr' : Ris casLt (out.take j) := List.Pairwise.sublist (List.take_sublist _ _) hr
  rcases List.eq_nil_or_concat (out.take j) with h | ⟨ys, z, h⟩
  · rw [h] at hy; cases hy
  · rw [List.concat_eq_append] at h
    rw [h] at hy hr' h1
    have hz := h1 z (by simp)
    rcases List.mem_append.1 hy with hy | hy
    · have h3 := (List.pairwise_append.1 hr').2.2 y hy z (by simp)
      cases h4 : casLt x y with
      | false => rfl
      | true =>
        have h5 := casLt_swo.ntrans (a := x) (b := z) (c := y) hz (casLt_swo.asym h3)
        rw [h4] at h5; cases h5
    · rw [List.mem_singleton] at hy; subst hy; exact hz
theorem gtB_eq (a b : ByteArray) : (!(Op.bytesLess a.toList b.toList || a.toList == b.toList)) = ltB b a := by
  have h0 : Op.bytesLess a.toList b.toList = ltB a b := rfl
  rw [h0, ← beq_toListBytes]
  rcases cmpS_cases a b with ⟨_, h3, h4, _⟩ | ⟨_, h3, h4, rfl⟩ | ⟨_, h3, h4, h5⟩
  · rw [h3, h4]; rfl
  · rw [h3, beqB_self]; rfl
  · rw [h3, h4]
    cases h : a == b with
    | false => rfl
    | true =>
      have := (beqB_iff).1 h
      subst this
      rw [h3] at h4; cases h4
set_option maxRecDepth 100000 in
set_option maxHeartbeats 8000000 in
theorem rf_Cases (A : Option Addr) (n c : Nat) (l : List Ev) (ok : Nat → Prop) (w : World) (hs : Sl evR ok w A n l) (hn : n ≤ 100000) (hmay : ∀ e ∈ l, mayE e = true) :
    Calls Tryz.prog 8 #[.slice A n c] w fun r w' => ∃ B m cb, r = .returned (.slice B m cb) ∧ Own casR 36 (fun g => w.heap.size ≤ g) w' w.heap.size (.slice B m cb) m (casesR (anewE l)) ∧ Ext w w' := by
  obtain ⟨i1, hi1, hy0, hy1, hy2⟩ := info_part3 info_cas
  have HA := Lib.hid (rf_Anew A n c l ok w hs hn hmay)
  have Hmay := Lib.hid (anew_may hmay)
  obtain ⟨la, hla⟩ : ∃ la, la = anewE l := ⟨_, rfl⟩
  rw [← hla] at HA Hmay ⊢
  clear hs hmay hla
  go_enter Tryz.func8, Tryz.ntmps8
  go_wp2_with (go_at_call 17; refine HA.out.mono ?_; rintro _ X ⟨B, m, cb, rfl, hmn, hev, hxX⟩; have Hev := Lib.hid hev.sl; have Hl := Lib.hid hev.sl.1; have HxX := Lib.hid hxX; have hszX := hxX.size; clear hev hxX)
  go_loopw [4, 5] (fun v i wr => ∃ (k q cv : Nat) (D : Option Addr), k ≤ m ∧ q ≤ k ∧ i = .int .i64 k ∧ v = .slice D q cv ∧ Own casR 36 (fun g => w.heap.size ≤ g) wr w.heap.size (.slice D q cv) q ((la.take k).foldl (refStep la) []) ∧ RefI la (la.take k) ((la.take k).foldl (refStep la) []) ∧ Ext X wr) (fun _ i _ => m - (intOf i).toNat)
  case atStart => exact ⟨0, 0, 0, _, Nat.zero_le _, Nat.le_refl _, rfl, rfl, Own.new_nil (blk_new _ _) hszX, ⟨List.Pairwise.nil, fun c hc => by (cases hc), fun e he => by (cases he)⟩, (Keeps.refl _ _).alloc _⟩
  case round =>
    obtain ⟨k, q, cv, D, hk, hq, rfl, rfl, hown, hri, hx⟩ := hrel
    have Hown := Lib.hid hown
    have Hri := Lib.hid hri
    have Hx := Lib.hid hx
    have hsz := Nat.le_trans hszX hx.size
    have hcap := hown.cap
    have Hol := Lib.hid hown.1
    have Hsl := Lib.hid (hown.sl (ok' := fun g => w.heap.size ≤ g) (fun g h _ _ => h) (fun _ _ h => h))
    clear hown hx hri
    by_cases hlt : k < m
    · have HslE := Lib.hid (Hev.out.ext Hx.out)
      obtain ⟨b, o, e, rfl, hb, _, he, d0, d1, d2, d3, d4, d5, d6, d7⟩ := HslE.out.ev hlt
      have j0 : (0 : Int) ≤ (k : Int) := by omega
      have j1 : (k : Int) < (m : Int) := by omega
      have Hst := Lib.hid (refs_snoc (m := la) he)
      have Hrs := Lib.hid (ref_step (l := la) (e := e) Hri.out)
      have Htk := Lib.hid (show la.take (k + 1) = la.take k ++ [e] by rw [List.take_add_one, he]; rfl)
      have Hme := Lib.hid (Hmay.out e (List.mem_of_getElem? he))
      have ht2 := (head_tick Hme.out).1
      have ht3 := (head_tick Hme.out).2
      obtain ⟨s, hS⟩ : ∃ s, s = (la.take k).foldl (refStep la) [] := ⟨_, rfl⟩
      rw [← hS] at Hown Hri Hol Hsl Hst Hrs
      clear he hS
      obtain ⟨V, hV⟩ : ∃ V, V = wr := ⟨_, rfl⟩
      rw [← hV] at Hown Hsl Hx HslE hsz hb d0 d1 d2 d3 d4 d5 d6 d7 ⊢
      clear hV
      obtain ⟨dy, hdy⟩ : ∃ d, d = e.tick / 86400 := ⟨_, rfl⟩
      obtain ⟨its, hits⟩ : ∃ i, i = itemsR la e.person dy := ⟨_, rfl⟩
      have HC := Lib.hid (show refC la e = ⟨e.person, dy * 86400, its⟩ by rw [hits, hdy]; rfl)
      have hb0 : (0 : Int) ≤ dy := by omega
      have hb1 : dy * 86400 ≤ e.tick := by omega
      have hmw : IntKind.i64.wrap (dy * 86400) = dy * 86400 := by rw [IntKind.wrap_i64]; omega
      have HI := Lib.hid (fun (Y : World) (hY : Ext V Y) => show Calls Tryz.prog 18 #[.slice (some ⟨b, o, none⟩) m cb, .string e.person, .int .i64 dy] Y fun r w' => ∃ B m cb, r = .returned (.slice B m cb) ∧ Own strR 9 (fun _ => True) w' Y.heap.size (.slice B m cb) m its ∧ Ext Y w' from by
        rw [hits]; exact rf_items (some ⟨b, o, none⟩) m cb la e.person dy _ Y (HslE.out.ext hY) (by omega) Hmay.out)
      have Hdy := Lib.hid hdy
      have Hlen := Lib.hid (show its.length ≤ 100000 by rw [hits]; have h1 := (had_len la e.person dy).2; have h2 := Hl.out; unfold itemsR; omega)
      clear hits
      have HS := Lib.hid (fun (w' : World) (hk : Ext V w') => show w'.cell? ⟨b, o + k * 8 + 4, none⟩ = some (.string e.person) from (hk.cell (p := ⟨b, o + k * 8 + 4, none⟩) hb trivial).trans d4)
      go_upto_region 7 with fail
      rw [← hdy]
      clear hdy
      go_cut [7] (fun s7 wx => ∃ g7 AI ci, s7 = .pointer (some ⟨g7, 0, none⟩) ∧ wx.heap[g7]? = some (.cells #[.string e.person, .int .i64 (dy * 86400), .slice AI its.length ci] 36) ∧ its.length ≤ ci ∧ Sl strR (fun g => w.heap.size ≤ g ∧ g < wx.heap.size) wx AI its.length its ∧ Ext V wx)
      case first =>
        refine wp_region_held_drew (S := fun w' => w'.cell? ⟨b, o + k * 8 + 4, none⟩ = some (.string e.person)) (by kernel_rfl) (by exact HS.out V.drew ((Keeps.refl _ _).drew)) (fun hHeld => ?_)
        change wpAnyH _ _ _ _ _ _ #[false, false, false, false, false, false, false, false, false, false, false, false, false, false, false, false, false, false] _ _
        refine wpAnyH_take (i := 0) (oi := { dst := some 25, op := Go.Op.move (Go.Operand.tmp 3), type := 22, pos := "ref.go:50", after := #[], guard := none }) (v := ?_) rfl (by kernel_rfl) (by kernel_rfl) (by kernel_rfl) (fun _ _ _ h => h) (Or.inl ⟨by rfl, ?_⟩) hHeld ?_
        rotate_left
        · intro w hSw
          (try dsimp only at hSw)
          go_simp
          all_goals (with_reducible rfl)
        try simp only [Act.put, List.setIfInBounds_toArray, List.set_cons_zero, List.set_cons_succ]
        refine wpAnyH_take (i := 1) (oi := { dst := some 26, op := Go.Op.move (Go.Operand.tmp 5), type := 3, pos := "ref.go:50", after := #[], guard := none }) (v := ?_) rfl (by kernel_rfl) (by kernel_rfl) (by kernel_rfl) (fun _ _ _ h => h) (Or.inl ⟨by rfl, ?_⟩) hHeld ?_
        rotate_left
        · intro w hSw
          (try dsimp only at hSw)
          go_simp
          all_goals (with_reducible rfl)
        try simp only [Act.put, List.setIfInBounds_toArray, List.set_cons_zero, List.set_cons_succ]
        refine wpAnyH_take (i := 2) (oi := { dst := some 27, op := Go.Op.indexAddr 22 (Go.Operand.tmp 25) (Go.Operand.tmp 26), type := 0, pos := "ref.go:50", after := #[{ on := 0, ground := Go.Ground.data }, { on := 1, ground := Go.Ground.data }], guard := none }) (v := ?_) rfl (by kernel_rfl) (by kernel_rfl) (by kernel_rfl) (fun _ _ _ h => h) (Or.inl ⟨by rfl, ?_⟩) hHeld ?_
        rotate_left
        · intro w hSw
          (try dsimp only at hSw)
          go_simp
          all_goals (with_reducible rfl)
        try simp only [Act.put, List.setIfInBounds_toArray, List.set_cons_zero, List.set_cons_succ]
        refine wpAnyH_take (i := 3) (oi := { dst := some 28, op := Go.Op.fieldAddr 30 (Go.Operand.tmp 27) 4, type := 0, pos := "ref.go:50", after := #[{ on := 2, ground := Go.Ground.data }], guard := none }) (v := ?_) rfl (by kernel_rfl) (by kernel_rfl) (by kernel_rfl) (fun _ _ _ h => h) (Or.inl ⟨by rfl, ?_⟩) hHeld ?_
        rotate_left
        · intro w hSw
          (try dsimp only at hSw)
          go_simp
          all_goals (with_reducible rfl)
        try simp only [Act.put, List.setIfInBounds_toArray, List.set_cons_zero, List.set_cons_succ]
        refine wpAnyH_take (i := 4) (oi := { dst := some 29, op := Go.Op.load 9 (Go.Operand.tmp 28), type := 9, pos := "ref.go:50", after := #[{ on := 3, ground := Go.Ground.data }], guard := none }) (v := ?_) rfl (by kernel_rfl) (by kernel_rfl) (by kernel_rfl) (fun _ _ _ h => h) (Or.inl ⟨by rfl, ?_⟩) hHeld ?_
        rotate_left
        · intro w hSw
          (try dsimp only at hSw)
          go_simp
          all_goals (with_reducible rfl)
        try simp only [Act.put, List.setIfInBounds_toArray, List.set_cons_zero, List.set_cons_succ]
        refine wpAnyH_take (i := 5) (oi := { dst := some 30, op := Go.Op.move (Go.Operand.tmp 6), type := 3, pos := "ref.go:50", after := #[], guard := none }) (v := ?_) rfl (by kernel_rfl) (by kernel_rfl) (by kernel_rfl) (fun _ _ _ h => h) (Or.inl ⟨by rfl, ?_⟩) hHeld ?_
        rotate_left
        · intro w hSw
          (try dsimp only at hSw)
          go_simp
          all_goals (with_reducible rfl)
        try simp only [Act.put, List.setIfInBounds_toArray, List.set_cons_zero, List.set_cons_succ]
        refine wpAnyH_take (i := 6) (oi := { dst := some 31, op := Go.Op.binOp Go.BinOp.mul 3 (Go.Operand.tmp 30) (Go.Operand.const (Go.Value.int Go.IntKind.i64 86400)) 3, type := 3, pos := "ref.go:50", after := #[{ on := 5, ground := Go.Ground.data }], guard := none }) (v := ?_) rfl (by kernel_rfl) (by kernel_rfl) (by kernel_rfl) (fun _ _ _ h => h) (Or.inl ⟨by rfl, ?_⟩) hHeld ?_
        rotate_left
        · intro w hSw
          (try dsimp only at hSw)
          go_simp
          all_goals (with_reducible rfl)
        try simp only [Act.put, List.setIfInBounds_toArray, List.set_cons_zero, List.set_cons_succ]
        refine wpAnyH_take (i := 7) (oi := { dst := some 32, op := Go.Op.move (Go.Operand.tmp 3), type := 22, pos := "ref.go:50", after := #[], guard := none }) (v := ?_) rfl (by kernel_rfl) (by kernel_rfl) (by kernel_rfl) (fun _ _ _ h => h) (Or.inl ⟨by rfl, ?_⟩) hHeld ?_
        rotate_left
        · intro w hSw
          (try dsimp only at hSw)
          go_simp
          all_goals (with_reducible rfl)
        try simp only [Act.put, List.setIfInBounds_toArray, List.set_cons_zero, List.set_cons_succ]
        refine wpAnyH_take (i := 8) (oi := { dst := some 33, op := Go.Op.move (Go.Operand.tmp 3), type := 22, pos := "ref.go:50", after := #[], guard := none }) (v := ?_) rfl (by kernel_rfl) (by kernel_rfl) (by kernel_rfl) (fun _ _ _ h => h) (Or.inl ⟨by rfl, ?_⟩) hHeld ?_
        rotate_left
        · intro w hSw
          (try dsimp only at hSw)
          go_simp
          all_goals (with_reducible rfl)
        try simp only [Act.put, List.setIfInBounds_toArray, List.set_cons_zero, List.set_cons_succ]
        refine wpAnyH_take (i := 9) (oi := { dst := some 34, op := Go.Op.move (Go.Operand.tmp 5), type := 3, pos := "ref.go:50", after := #[], guard := none }) (v := ?_) rfl (by kernel_rfl) (by kernel_rfl) (by kernel_rfl) (fun _ _ _ h => h) (Or.inl ⟨by rfl, ?_⟩) hHeld ?_
        rotate_left
        · intro w hSw
          (try dsimp only at hSw)
          go_simp
          all_goals (with_reducible rfl)
        try simp only [Act.put, List.setIfInBounds_toArray, List.set_cons_zero, List.set_cons_succ]
        refine wpAnyH_take (i := 10) (oi := { dst := some 35, op := Go.Op.indexAddr 22 (Go.Operand.tmp 33) (Go.Operand.tmp 34), type := 0, pos := "ref.go:50", after := #[{ on := 8, ground := Go.Ground.data }, { on := 9, ground := Go.Ground.data }], guard := none }) (v := ?_) rfl (by kernel_rfl) (by kernel_rfl) (by kernel_rfl) (fun _ _ _ h => h) (Or.inl ⟨by rfl, ?_⟩) hHeld ?_
        rotate_left
        · intro w hSw
          (try dsimp only at hSw)
          go_simp
          all_goals (with_reducible rfl)
        try simp only [Act.put, List.setIfInBounds_toArray, List.set_cons_zero, List.set_cons_succ]
        refine wpAnyH_take (i := 11) (oi := { dst := some 36, op := Go.Op.fieldAddr 30 (Go.Operand.tmp 35) 4, type := 0, pos := "ref.go:50", after := #[{ on := 10, ground := Go.Ground.data }], guard := none }) (v := ?_) rfl (by kernel_rfl) (by kernel_rfl) (by kernel_rfl) (fun _ _ _ h => h) (Or.inl ⟨by rfl, ?_⟩) hHeld ?_
        rotate_left
        · intro w hSw
          (try dsimp only at hSw)
          go_simp
          all_goals (with_reducible rfl)
        try simp only [Act.put, List.setIfInBounds_toArray, List.set_cons_zero, List.set_cons_succ]
        refine wpAnyH_take (i := 12) (oi := { dst := some 37, op := Go.Op.load 9 (Go.Operand.tmp 36), type := 9, pos := "ref.go:50", after := #[{ on := 11, ground := Go.Ground.data }], guard := none }) (v := ?_) rfl (by kernel_rfl) (by kernel_rfl) (by kernel_rfl) (fun _ _ _ h => h) (Or.inl ⟨by rfl, ?_⟩) hHeld ?_
        rotate_left
        · intro w hSw
          (try dsimp only at hSw)
          go_simp
          all_goals (with_reducible rfl)
        try simp only [Act.put, List.setIfInBounds_toArray, List.set_cons_zero, List.set_cons_succ]
        refine wpAnyH_take (i := 13) (oi := { dst := some 38, op := Go.Op.move (Go.Operand.tmp 6), type := 3, pos := "ref.go:50", after := #[], guard := none }) (v := ?_) rfl (by kernel_rfl) (by kernel_rfl) (by kernel_rfl) (fun _ _ _ h => h) (Or.inl ⟨by rfl, ?_⟩) hHeld ?_
        rotate_left
        · intro w hSw
          (try dsimp only at hSw)
          go_simp
          all_goals (with_reducible rfl)
        try simp only [Act.put, List.setIfInBounds_toArray, List.set_cons_zero, List.set_cons_succ]
        refine wpAnyH_ready (rs := [14, 16]) (by kernel_rfl) (by simp) ?_
        refine (AllReadyH.cons (o := { dst := some 39, op := Go.Op.call { callee := Go.Callee.value (Go.Operand.func 18), args := #[Go.Operand.tmp 32, Go.Operand.tmp 37, Go.Operand.tmp 38], argTypes := #[22, 9, 3] }, type := 34, pos := "ref.go:50", after := #[{ on := 7, ground := Go.Ground.data }, { on := 12, ground := Go.Ground.data }, { on := 13, ground := Go.Ground.data }], guard := none }) rfl (fun K hK => ?_) (AllReadyH.cons (o := { dst := some 7, op := Go.Op.alloc 36, type := 0, pos := "ref.go:50", after := #[], guard := none }) rfl (fun K hK => ?_) AllReadyH.nil))
        · (go_simp; go_at_call 18; refine (HI.out _ (by repeat (first | with_reducible exact Keeps.refl _ _ | with_reducible assumption | with_reducible refine Keeps.drew ?_ | with_reducible refine Keeps.alloc ?_ _))).mono ?_; rintro _ w5 ⟨AI, ni, ci, rfl, hown5, hx5⟩; have hk5 : Ext V w5 := Keeps.trans (by repeat (first | with_reducible exact Keeps.refl _ _ | with_reducible assumption | with_reducible refine Keeps.drew ?_ | with_reducible refine Keeps.alloc ?_ _)) hx5)
          refine hK.out _ _ (by exact HS.out _ (by repeat (first | with_reducible exact hk5 | with_reducible exact Keeps.refl _ _ | with_reducible refine Keeps.drew ?_ | with_reducible refine Keeps.drewN ?_ _ | with_reducible refine Keeps.alloc ?_ _ | with_reducible refine Keeps.setCell ?_ (by first | (intro h; simp at h; done) | (intro _; simp; done) | (intro _; simp; omega) | (intro h; simp at h; omega)) _))) (fun hHeld => ?_)
          clear hK K
          try simp only [List.setIfInBounds_toArray, List.set_cons_zero, List.set_cons_succ]
          refine wpAnyH_take (i := 15) (oi := { dst := some 40, op := Go.Op.build 36 #[(0, Go.Operand.tmp 29), (1, Go.Operand.tmp 31), (2, Go.Operand.tmp 39)], type := 36, pos := "ref.go:50", after := #[{ on := 4, ground := Go.Ground.data }, { on := 6, ground := Go.Ground.data }, { on := 14, ground := Go.Ground.data }], guard := none }) (v := ?_) rfl (by kernel_rfl) (by kernel_rfl) (by kernel_rfl) (fun _ _ _ h => h) (Or.inl ⟨by rfl, ?_⟩) hHeld ?_
          rotate_left
          · intro w hSw
            (try dsimp only at hSw)
            go_simp
            all_goals (with_reducible rfl)
          try simp only [Act.put, List.setIfInBounds_toArray, List.set_cons_zero, List.set_cons_succ]
          refine wpAnyH_ready (rs := [16]) (by kernel_rfl) (by simp) ?_
          refine (AllReadyH.cons (o := { dst := some 7, op := Go.Op.alloc 36, type := 0, pos := "ref.go:50", after := #[], guard := none }) rfl (fun K hK => ?_) AllReadyH.nil)
          go_simp
          refine hK.out _ _ (by exact HS.out _ (by repeat (first | with_reducible exact hk5 | with_reducible exact Keeps.refl _ _ | with_reducible refine Keeps.drew ?_ | with_reducible refine Keeps.drewN ?_ _ | with_reducible refine Keeps.alloc ?_ _ | with_reducible refine Keeps.setCell ?_ (by first | (intro h; simp at h; done) | (intro _; simp; done) | (intro _; simp; omega) | (intro h; simp at h; omega)) _))) (fun hHeld => ?_)
          clear hK K
          try simp only [List.setIfInBounds_toArray, List.set_cons_zero, List.set_cons_succ]
          refine wpAnyH_ready (rs := [17]) (by kernel_rfl) (by simp) ?_
          refine (AllReadyH.cons (o := { dst := none, op := Go.Op.store 36 (Go.Operand.tmp 7) (Go.Operand.tmp 40), type := 0, pos := "ref.go:50", after := #[{ on := 16, ground := Go.Ground.data }, { on := 15, ground := Go.Ground.data }, { on := 14, ground := Go.Ground.chain }, { on := 0, ground := Go.Ground.phase }, { on := 1, ground := Go.Ground.phase }, { on := 2, ground := Go.Ground.phase }, { on := 3, ground := Go.Ground.phase }, { on := 4, ground := Go.Ground.phase }, { on := 5, ground := Go.Ground.phase }, { on := 6, ground := Go.Ground.phase }, { on := 7, ground := Go.Ground.phase }, { on := 8, ground := Go.Ground.phase }, { on := 9, ground := Go.Ground.phase }, { on := 10, ground := Go.Ground.phase }, { on := 11, ground := Go.Ground.phase }, { on := 12, ground := Go.Ground.phase }, { on := 13, ground := Go.Ground.phase }, { on := 14, ground := Go.Ground.phase }, { on := 15, ground := Go.Ground.phase }, { on := 16, ground := Go.Ground.phase }], guard := none }) rfl (fun K hK => ?_) AllReadyH.nil)
          go_simp
          refine hK.out _ _ (by exact HS.out _ (by repeat (first | with_reducible exact hk5 | with_reducible exact Keeps.refl _ _ | with_reducible refine Keeps.drew ?_ | with_reducible refine Keeps.drewN ?_ _ | with_reducible refine Keeps.alloc ?_ _ | with_reducible refine Keeps.setCell ?_ (by first | (intro h; simp at h; done) | (intro _; simp; done) | (intro _; simp; omega) | (intro h; simp at h; omega)) _))) (fun hHeld => ?_)
          clear hK K
          try simp only [List.setIfInBounds_toArray, List.set_cons_zero, List.set_cons_succ]
          refine wpAnyH_done (by kernel_rfl) ?_ _
          go_wp2_with fail
          go_meet
          obtain rfl : ni = its.length := hown5.1.symm
          have hcp5 := hown5.cap
          have hsi5 : Sl strR (fun g => w.heap.size ≤ g ∧ g < w5.heap.size) w5 AI its.length its := (Own.flat (ok' := fun _ => False) strR_flat hown5 (fun _ _ => rfl)).sl (fun g hb9 h8 _ => ⟨by first | omega | (simp at hb9; omega), h8⟩) (fun _ _ h => h.elim)
          refine ⟨_, AI, ci, rfl, ?_, hcp5, ?_, ?_⟩
          · first | with_reducible exact blk_new _ _ | (have h9 := (blk_set (blk_set (blk_set hz5 0 (.string e.person)) 1 (.int .i64 (dy * 86400))) 2 (.slice AI its.length ci)); simp only [List.setIfInBounds_toArray, List.set_cons_zero, List.set_cons_succ] at h9; exact h9)
          · first | exact (hsi5.mono (fun g _ h => ⟨h.1, by have := h.2; simp; omega⟩)).ext ((Keeps.refl _ _).alloc _) | exact ((((Own.flat (ok' := fun _ => False) strR_flat hown5 (fun _ _ => rfl)).sl (ok' := fun g => V.heap.size < g ∧ w.heap.size ≤ g ∧ g < w5.heap.size) (fun g hb9 h8 _ => ⟨by simp at hb9; omega, by simp at hb9; omega, h8⟩) (fun _ _ h => h.elim)).keep (Keeps.setCell (Keeps.setCell (Keeps.setCell (Keeps.refl _ _) (fun _ h => Nat.lt_irrefl _ h.1) _) (fun _ h => Nat.lt_irrefl _ h.1) _) (fun _ h => Nat.lt_irrefl _ h.1) _)).mono (fun g _ h => ⟨h.2.1, by have := h.2.2; simp [World.setCell]; omega⟩))
          · repeat (first | with_reducible exact hk5 | with_reducible exact Keeps.refl _ _ | with_reducible refine Keeps.drew ?_ | with_reducible refine Keeps.drewN ?_ _ | with_reducible refine Keeps.alloc ?_ _ | with_reducible refine Keeps.setCell ?_ (by first | (intro h; simp at h; done) | (intro _; simp; done) | (intro _; simp; omega) | (intro h; simp at h; omega)) _)
        · go_simp
          refine hK.out _ _ (by exact HS.out _ (by repeat (first | with_reducible exact hk5 | with_reducible exact Keeps.refl _ _ | with_reducible refine Keeps.drew ?_ | with_reducible refine Keeps.drewN ?_ _ | with_reducible refine Keeps.alloc ?_ _ | with_reducible refine Keeps.setCell ?_ (by first | (intro h; simp at h; done) | (intro _; simp; done) | (intro _; simp; omega) | (intro h; simp at h; omega)) _))) (fun hHeld => ?_)
          clear hK K
          try simp only [List.setIfInBounds_toArray, List.set_cons_zero, List.set_cons_succ]
          refine wpAnyH_ready (rs := [14]) (by kernel_rfl) (by simp) ?_
          refine (AllReadyH.cons (o := { dst := some 39, op := Go.Op.call { callee := Go.Callee.value (Go.Operand.func 18), args := #[Go.Operand.tmp 32, Go.Operand.tmp 37, Go.Operand.tmp 38], argTypes := #[22, 9, 3] }, type := 34, pos := "ref.go:50", after := #[{ on := 7, ground := Go.Ground.data }, { on := 12, ground := Go.Ground.data }, { on := 13, ground := Go.Ground.data }], guard := none }) rfl (fun K hK => ?_) AllReadyH.nil)
          (go_simp; go_at_call 18; refine (HI.out _ (by repeat (first | with_reducible exact Keeps.refl _ _ | with_reducible assumption | with_reducible refine Keeps.drew ?_ | with_reducible refine Keeps.alloc ?_ _))).mono ?_; rintro _ w5 ⟨AI, ni, ci, rfl, hown5, hx5⟩; have hk5 : Ext V w5 := Keeps.trans (by repeat (first | with_reducible exact Keeps.refl _ _ | with_reducible assumption | with_reducible refine Keeps.drew ?_ | with_reducible refine Keeps.alloc ?_ _)) hx5)
          refine hK.out _ _ (by exact HS.out _ (by repeat (first | with_reducible exact hk5 | with_reducible exact Keeps.refl _ _ | with_reducible refine Keeps.drew ?_ | with_reducible refine Keeps.drewN ?_ _ | with_reducible refine Keeps.alloc ?_ _ | with_reducible refine Keeps.setCell ?_ (by first | (intro h; simp at h; done) | (intro _; simp; done) | (intro _; simp; omega) | (intro h; simp at h; omega)) _))) (fun hHeld => ?_)
          clear hK K
          try simp only [List.setIfInBounds_toArray, List.set_cons_zero, List.set_cons_succ]
          have hz5 := hx5.blk (blk_new _ _)
          have gfree := blk_free hz5
          have hg5l := (Array.getElem?_eq_some_iff.1 hz5).1
          have e0 := blk_cell hz5 0 rfl
          have e1 := blk_cell hz5 1 rfl
          have e2 := blk_cell hz5 2 rfl
          refine wpAnyH_take (i := 15) (oi := { dst := some 40, op := Go.Op.build 36 #[(0, Go.Operand.tmp 29), (1, Go.Operand.tmp 31), (2, Go.Operand.tmp 39)], type := 36, pos := "ref.go:50", after := #[{ on := 4, ground := Go.Ground.data }, { on := 6, ground := Go.Ground.data }, { on := 14, ground := Go.Ground.data }], guard := none }) (v := ?_) rfl (by kernel_rfl) (by kernel_rfl) (by kernel_rfl) (fun _ _ _ h => h) (Or.inl ⟨by rfl, ?_⟩) hHeld ?_
          rotate_left
          · intro w hSw
            (try dsimp only at hSw)
            go_simp
            all_goals (with_reducible rfl)
          try simp only [Act.put, List.setIfInBounds_toArray, List.set_cons_zero, List.set_cons_succ]
          refine wpAnyH_ready (rs := [17]) (by kernel_rfl) (by simp) ?_
          refine (AllReadyH.cons (o := { dst := none, op := Go.Op.store 36 (Go.Operand.tmp 7) (Go.Operand.tmp 40), type := 0, pos := "ref.go:50", after := #[{ on := 16, ground := Go.Ground.data }, { on := 15, ground := Go.Ground.data }, { on := 14, ground := Go.Ground.chain }, { on := 0, ground := Go.Ground.phase }, { on := 1, ground := Go.Ground.phase }, { on := 2, ground := Go.Ground.phase }, { on := 3, ground := Go.Ground.phase }, { on := 4, ground := Go.Ground.phase }, { on := 5, ground := Go.Ground.phase }, { on := 6, ground := Go.Ground.phase }, { on := 7, ground := Go.Ground.phase }, { on := 8, ground := Go.Ground.phase }, { on := 9, ground := Go.Ground.phase }, { on := 10, ground := Go.Ground.phase }, { on := 11, ground := Go.Ground.phase }, { on := 12, ground := Go.Ground.phase }, { on := 13, ground := Go.Ground.phase }, { on := 14, ground := Go.Ground.phase }, { on := 15, ground := Go.Ground.phase }, { on := 16, ground := Go.Ground.phase }], guard := none }) rfl (fun K hK => ?_) AllReadyH.nil)
          go_simp
          refine hK.out _ _ (by exact HS.out _ (by repeat (first | with_reducible exact hk5 | with_reducible exact Keeps.refl _ _ | with_reducible refine Keeps.drew ?_ | with_reducible refine Keeps.drewN ?_ _ | with_reducible refine Keeps.alloc ?_ _ | with_reducible refine Keeps.setCell ?_ (by first | (intro h; simp at h; done) | (intro _; simp; done) | (intro _; simp; omega) | (intro h; simp at h; omega)) _))) (fun hHeld => ?_)
          clear hK K
          try simp only [List.setIfInBounds_toArray, List.set_cons_zero, List.set_cons_succ]
          refine wpAnyH_done (by kernel_rfl) ?_ _
          go_wp2_with fail
          go_meet
          obtain rfl : ni = its.length := hown5.1.symm
          have hcp5 := hown5.cap
          have hsi5 : Sl strR (fun g => w.heap.size ≤ g ∧ g < w5.heap.size) w5 AI its.length its := (Own.flat (ok' := fun _ => False) strR_flat hown5 (fun _ _ => rfl)).sl (fun g hb9 h8 _ => ⟨by first | omega | (simp at hb9; omega), h8⟩) (fun _ _ h => h.elim)
          refine ⟨_, AI, ci, rfl, ?_, hcp5, ?_, ?_⟩
          · first | with_reducible exact blk_new _ _ | (have h9 := (blk_set (blk_set (blk_set hz5 0 (.string e.person)) 1 (.int .i64 (dy * 86400))) 2 (.slice AI its.length ci)); simp only [List.setIfInBounds_toArray, List.set_cons_zero, List.set_cons_succ] at h9; exact h9)
          · first | exact (hsi5.mono (fun g _ h => ⟨h.1, by have := h.2; simp; omega⟩)).ext ((Keeps.refl _ _).alloc _) | exact ((((Own.flat (ok' := fun _ => False) strR_flat hown5 (fun _ _ => rfl)).sl (ok' := fun g => V.heap.size < g ∧ w.heap.size ≤ g ∧ g < w5.heap.size) (fun g hb9 h8 _ => ⟨by simp at hb9; omega, by simp at hb9; omega, h8⟩) (fun _ _ h => h.elim)).keep (Keeps.setCell (Keeps.setCell (Keeps.setCell (Keeps.refl _ _) (fun _ h => Nat.lt_irrefl _ h.1) _) (fun _ h => Nat.lt_irrefl _ h.1) _) (fun _ h => Nat.lt_irrefl _ h.1) _)).mono (fun g _ h => ⟨h.2.1, by have := h.2.2; simp [World.setCell]; omega⟩))
          · repeat (first | with_reducible exact hk5 | with_reducible exact Keeps.refl _ _ | with_reducible refine Keeps.drew ?_ | with_reducible refine Keeps.drewN ?_ _ | with_reducible refine Keeps.alloc ?_ _ | with_reducible refine Keeps.setCell ?_ (by first | (intro h; simp at h; done) | (intro _; simp; done) | (intro _; simp; omega) | (intro h; simp at h; omega)) _)
      case rest =>
        obtain ⟨g7, AI, ci, hs7, h7, hci, hsi, hxU⟩ := hcut
        subst hs7
        obtain ⟨U, hU⟩ : ∃ U, U = wc := ⟨_, rfl⟩
        rw [← hU] at h7 hsi hxU ⊢
        have f0 := blk_cell h7 0 rfl
        have f1 := blk_cell h7 1 rfl
        have f2 := blk_cell h7 2 rfl
        have hb7 : g7 < U.heap.size := (Array.getElem?_eq_some_iff.1 h7).1
        obtain ⟨c0, c1, c2, c3, c4, c5, c6, c7⟩ := ev8_ext hxU hb ⟨d0, d1, d2, d3, d4, d5, d6, d7⟩
        have Hsi := Lib.hid hsi
        have HxU := Lib.hid hxU
        have hszU := Nat.le_trans hsz hxU.size
        have HT := Lib.hid (rf_took e U)
        obtain ⟨tk, htk⟩ : ∃ t, t = tookE e := ⟨_, rfl⟩
        rw [← htk] at HT
        have HTh := Lib.hid (fun (Z : World) (hZ : Ext U Z) => rf_there D q cv s e.person (dy * 86400) (fun g => w.heap.size ≤ g) Z ((Hsl.out.ext HxU.out).ext hZ) (by omega))
        obtain ⟨th, hth⟩ : ∃ t, t = thereL s e.person (dy * 86400) := ⟨_, rfl⟩
        rw [← hth] at HTh
        obtain ⟨ni, hni⟩ : ∃ ni, ni = its.length := ⟨_, rfl⟩
        have Hne := Lib.hid (show its.isEmpty = decide (ni = 0) by rw [hni, Bool.eq_iff_iff]; simp)
        rw [← hni] at f2 Hsi hci
        have Hni := Lib.hid hni
        have Hstep := Lib.hid (show refStep la s e = if tk && !decide (ni = 0) && !th then putE casLt s ⟨e.person, dy * 86400, its⟩ else s by unfold refStep; rw [HC.out, ← htk, Hne.out]; show (if (tk && !decide (ni = 0) && !thereL s e.person (dy * 86400)) = true then _ else _) = _; rw [← hth])
        clear hU h7 hsi hxU d0 d1 d2 d3 d4 d5 d6 d7 htk hth hni
        have HK := Lib.hid (fun (Z : World) (hZ : Ext U Z) (hq : refStep la s e = s) => show ∃ (k' q' cv' : Nat) (D' : Option Addr), k' ≤ m ∧ q' ≤ k' ∧ Value.int .i64 ((k : Int) + 1) = .int .i64 k' ∧ Value.slice D q cv = .slice D' q' cv' ∧ Own casR 36 (fun g => w.heap.size ≤ g) Z w.heap.size (.slice D' q' cv') q' ((la.take k').foldl (refStep la) []) ∧ RefI la (la.take k') ((la.take k').foldl (refStep la) []) ∧ Ext X Z from
          ⟨k + 1, q, cv, D, by omega, by omega, by congr 1, rfl, by rw [Hst.out, hq]; exact Hown.out.ext (Keeps.trans HxU.out hZ), by rw [Hst.out, Htk.out]; exact Hrs.out, Keeps.trans Hx.out (Keeps.trans HxU.out hZ)⟩)
        cases tk
        · go_wp2_with (go_at_call 19; refine HT.out.mono ?_; rintro _ Z ⟨rfl, hxZ⟩; have HxZ := Lib.hid hxZ; clear hxZ)
          go_roundw
          case rel => exact HK.out _ HxZ.out (by rw [Hstep.out]; rfl)
          case measure => simp [intOf]; omega
        · by_cases hn0 : ni = 0
          · have hn1 : ((ni : Int) == 0) = true := by simp; omega
            have hn2 : decide (ni = 0) = true := by simpa using hn0
            have Hq := Lib.hid (show refStep la s e = s by rw [Hstep.out, hn0]; rfl)
            clear hn0
            go_wp2_with (go_at_call 19; refine HT.out.mono ?_; rintro _ Z ⟨rfl, hxZ⟩; have HxZ := Lib.hid hxZ; have e2 := (hxZ.cell (p := ⟨g7, 2, none⟩) hb7 trivial).trans f2; clear hxZ)
            go_roundw
            case rel => exact HK.out _ HxZ.out Hq.out
            case measure => (simp [intOf]; omega)
          · have hn1 : ((ni : Int) == 0) = false := by simp; omega
            have hn2 : decide (ni = 0) = false := by simpa using hn0
            cases th
            · have Hq := Lib.hid (show refStep la s e = putE casLt s ⟨e.person, dy * 86400, its⟩ by rw [Hstep.out, hn2]; rfl)
              go_upto_region 9 with (first
                | (go_at_call 19; refine HT.out.mono ?_; rintro _ Z ⟨rfl, hxZ⟩; have HxZ := Lib.hid hxZ; have e0 := (hxZ.cell (p := ⟨g7, 0, none⟩) hb7 trivial).trans f0; have e1 := (hxZ.cell (p := ⟨g7, 1, none⟩) hb7 trivial).trans f1; have e2 := (hxZ.cell (p := ⟨g7, 2, none⟩) hb7 trivial).trans f2; have hb7Z := Nat.lt_of_lt_of_le hb7 hxZ.size; clear hxZ)
                | (go_at_call 20; refine (HTh.out _ HxZ.out).mono ?_; rintro _ Y ⟨rfl, rfl⟩))
              have HHZ := Lib.hid (Keeps.trans HxU.out HxZ.out)
              have HslZ := Lib.hid (Hsl.out.ext HHZ.out)
              have HsiZ := Lib.hid ((Hsi.out.ext HxZ.out).mono (ok' := fun g => w.heap.size ≤ g ∧ g < Z.heap.size) (fun g _ h => ⟨h.1, Nat.lt_of_lt_of_le h.2 HxZ.out.size⟩))
              have HownZ := Lib.hid (Hown.out.ext HHZ.out)
              have HwZ := Lib.hid (Keeps.trans Hx.out HHZ.out)
              have hszZ := Nat.le_trans hszU HxZ.out.size
              clear c0 c1 c2 c3 c4 c5 c6 c7 f0 f1 f2 HT HTh HK Hstep
              go_wp2_with fail
              go_loopw [8] (fun i wr => ∃ j : Nat, j ≤ q ∧ i = .int .i64 j ∧ (∀ y ∈ s.drop j, casLt ⟨e.person, dy * 86400, its⟩ y = true) ∧ Ext Z wr) (fun i _ => (intOf i).toNat)
              case atStart => exact ⟨q, Nat.le_refl _, rfl, by rw [List.drop_eq_nil_of_le (Nat.le_of_eq Hol.out)]; exact fun _ h => (by cases h), Keeps.refl _ _⟩
              case round =>
                obtain ⟨j, hj, rfl, hgt, hx2⟩ := hrel
                have Hgt := Lib.hid hgt
                have Hx2 := Lib.hid hx2
                clear hgt hx2
                have hqn : q ≤ 100000 := by omega
                have j0' : (0 : Int) ≤ (j : Int) := by omega
                have j1' : (j : Int) ≤ (cv : Int) := by omega
                have j2' : (j : Int) ≤ (q : Int) := by omega
                have g0 := (Hx2.out.cell (p := ⟨g7, 0, none⟩) hb7Z trivial).trans e0
                have g1 := (Hx2.out.cell (p := ⟨g7, 1, none⟩) hb7Z trivial).trans e1
                have hb7w := Nat.lt_of_lt_of_le hb7Z Hx2.out.size
                go_upto_region 10 with fail
                go_cut [97] (fun s97 wx => ∃ bb : Bool, s97 = .bool bb ∧ (bb = true → 0 < j ∧ ∃ z, s[j - 1]? = some z ∧ casLt ⟨e.person, dy * 86400, its⟩ z = true) ∧ (bb = false → ∀ z, (s.take j).getLast? = some z → casLt ⟨e.person, dy * 86400, its⟩ z = false) ∧ Ext Z wx)
                case first =>
                  rcases Nat.eq_zero_or_pos j with hj0 | hj0
                  · have hj0' : decide (0 < (j : Int)) = false := by simp; omega
                    have hj1' : decide (0 < j) = false := by simp; omega
                    refine wp_region_ext wr (Keeps.refl _ _) (by kernel_rfl) (by kernel_rfl) ?_
                    repeat (go_big_quiet_step (fail))
                    refine wpQuiet_nil ?_
                    rintro _ ⟨y, rfl⟩
                    go_wp2_with fail
                    go_meet
                    exact ⟨false, rfl, (by intro h; cases h), fun _ z hz => (by rw [hj0] at hz; simp at hz), Hx2.out.trans y.h⟩
                  · obtain ⟨bz, oz, z, AZ, cz, rfl, hbz, _, hz, _, _, z0, z1, z2⟩ := (HslZ.out.ext Hx2.out).cas (k := j - 1) (by omega)
                    have q0 : (0 : Int) ≤ (j : Int) - 1 := by omega
                    have q1 : (j : Int) - 1 < (q : Int) := by omega
                    have q2 : IntKind.i64.wrap ((j : Int) - 1) = (j : Int) - 1 := by rw [IntKind.wrap_i64]; omega
                    have q3 : ((j : Int) - 1).toNat = j - 1 := by omega
                    have hj0' : decide (0 < (j : Int)) = true := by simp; omega
                    have hj1' : decide (0 < j) = true := by simp; omega
                    have Hz := Lib.hid hz
                    have Hlast := Lib.hid (show ∀ z', (s.take j).getLast? = some z' → z' = z from fun z' hz9 => by
                      rw [List.getLast?_eq_getElem?, List.length_take, List.getElem?_take, if_pos (by have := Hol.out; omega), show min j s.length - 1 = j - 1 by have := Hol.out; omega, Hz.out] at hz9
                      exact (Option.some.inj hz9).symm)
                    have hG := gtB_eq z.person e.person
                    clear hz
                    rcases Int.lt_trichotomy (dy * 86400) z.tick with h | h | h
                    · have hd1 : decide (dy * 86400 < z.tick) = true := by simpa using h
                      have Hlt := Lib.hid (show casLt ⟨e.person, dy * 86400, its⟩ z = true from casLt_iff.2 (.inl h))
                      clear hG
                      refine wp_region_ext wr (Keeps.refl _ _) (by kernel_rfl) (by kernel_rfl) ?_
                      have hcell := fun (y : XW wr) => y.cell
                      repeat (go_big_quiet_step (fail))
                      refine wpQuiet_nil ?_
                      rintro _ ⟨y, rfl⟩
                      clear hcell
                      go_wp2_with fail
                      go_meet
                      exact ⟨true, rfl, fun _ => ⟨hj0, z, Hz.out, Hlt.out⟩, (by intro h; cases h), Hx2.out.trans y.h⟩
                    · have hd1 : decide (dy * 86400 < z.tick) = false := by simp; omega
                      have hd2 : (z.tick == dy * 86400) = true := by simp; omega
                      cases hl : ltB e.person z.person
                      · rw [hl] at hG
                        have Hlt := Lib.hid (show casLt ⟨e.person, dy * 86400, its⟩ z = false by unfold casLt; rw [hd1, hl]; simp)
                        clear h hl
                        refine wp_region_ext wr (Keeps.refl _ _) (by kernel_rfl) (by kernel_rfl) ?_
                        have hcell := fun (y : XW wr) => y.cell
                        repeat (go_big_quiet_step (fail))
                        refine wpQuiet_nil ?_
                        rintro _ ⟨y, rfl⟩
                        clear hcell
                        go_wp2_with fail
                        go_meet
                        exact ⟨false, rfl, (by intro h; cases h), fun _ z' hz9 => (by rw [Hlast.out z' hz9]; exact Hlt.out), Hx2.out.trans y.h⟩
                      · rw [hl] at hG
                        have Hlt := Lib.hid (show casLt ⟨e.person, dy * 86400, its⟩ z = true from casLt_iff.2 (.inr ⟨h, hl⟩))
                        clear h hl
                        refine wp_region_ext wr (Keeps.refl _ _) (by kernel_rfl) (by kernel_rfl) ?_
                        have hcell := fun (y : XW wr) => y.cell
                        repeat (go_big_quiet_step (fail))
                        refine wpQuiet_nil ?_
                        rintro _ ⟨y, rfl⟩
                        clear hcell
                        go_wp2_with fail
                        go_meet
                        exact ⟨true, rfl, fun _ => ⟨hj0, z, Hz.out, Hlt.out⟩, (by intro h; cases h), Hx2.out.trans y.h⟩
                    · have hd1 : decide (dy * 86400 < z.tick) = false := by simp; omega
                      have hd2 : (z.tick == dy * 86400) = false := by simp; omega
                      have Hlt := Lib.hid (show casLt ⟨e.person, dy * 86400, its⟩ z = false by unfold casLt; rw [hd1]; simp; omega)
                      clear hG
                      refine wp_region_ext wr (Keeps.refl _ _) (by kernel_rfl) (by kernel_rfl) ?_
                      have hcell := fun (y : XW wr) => y.cell
                      repeat (go_big_quiet_step (fail))
                      refine wpQuiet_nil ?_
                      rintro _ ⟨y, rfl⟩
                      clear hcell
                      go_wp2_with fail
                      go_meet
                      exact ⟨false, rfl, (by intro h; cases h), fun _ z' hz9 => (by rw [Hlast.out z' hz9]; exact Hlt.out), Hx2.out.trans y.h⟩
                case rest =>
                  obtain ⟨bb, hs97, hT, hF, hxY⟩ := hcut
                  subst hs97
                  obtain ⟨Y, hY⟩ : ∃ Y, Y = wc := ⟨_, rfl⟩
                  rw [← hY] at hxY ⊢
                  have HxY := Lib.hid hxY
                  clear hY hxY g0 g1
                  cases bb
                  · have Hle := Lib.hid (hF rfl)
                    clear hT hF
                    have y0 := (HxY.out.cell (p := ⟨g7, 0, none⟩) hb7Z trivial).trans e0
                    have y1 := (HxY.out.cell (p := ⟨g7, 1, none⟩) hb7Z trivial).trans e1
                    have y2 := (HxY.out.cell (p := ⟨g7, 2, none⟩) hb7Z trivial).trans e2
                    have hb7Y := Nat.lt_of_lt_of_le hb7Z HxY.out.size
                    have hszY := Nat.le_trans hszZ HxY.out.size
                    have HownY := Lib.hid (HownZ.out.ext HxY.out)
                    have HslY := Lib.hid (HownY.out.sl (ok' := fun g => w.heap.size ≤ g ∧ g < Y.heap.size) (fun g h h2 _ => ⟨h, h2⟩) (fun g h h2 => ⟨h2, h⟩))
                    have HsiY := Lib.hid ((HsiZ.out.ext HxY.out).mono (ok' := fun g => w.heap.size ≤ g ∧ g < Y.heap.size) (fun g h h2 => ⟨h2.1, h⟩))
                    have Hci := Lib.hid hci
                    have hnn := Hni.out
                    rw [hnn] at HsiY Hci y2
                    clear hnn
                    have Hput := Lib.hid (put_here Hri.out.ris Hle.out Hgt.out)
                    have HwY := Lib.hid (Keeps.trans HwZ.out HxY.out)
                    have Hfin := Lib.hid (fun (W : World) (B7 : Option Addr) (c7 : Nat) (hxW : Ext Y W) (h : Own casR 36 (fun g => w.heap.size ≤ g ∧ g < Y.heap.size) W Y.heap.size (.slice B7 (j + 1 + (q - j)) c7) (j + 1 + (q - j)) (s.take j ++ [⟨e.person, dy * 86400, its⟩] ++ s.drop j)) => show ∃ (k' q' cv' : Nat) (D' : Option Addr), k' ≤ m ∧ q' ≤ k' ∧ Value.int .i64 ((k : Int) + 1) = .int .i64 k' ∧ Value.slice B7 (j + 1 + (q - j)) c7 = .slice D' q' cv' ∧ Own casR 36 (fun g => w.heap.size ≤ g) W w.heap.size (.slice D' q' cv') q' ((la.take k').foldl (refStep la) []) ∧ RefI la (la.take k') ((la.take k').foldl (refStep la) []) ∧ Ext X W from by
                      rw [← Hput.out, ← Hq.out, ← Hst.out] at h
                      exact ⟨k + 1, j + 1 + (q - j), c7, B7, by omega, by omega, by congr 1, rfl, Own.le (h.mono (fun g _ h => h.1)) hszY, by rw [Hst.out, Htk.out]; exact Hrs.out, Keeps.trans HwY.out hxW⟩)
                    have Hcut := Lib.hid (HslY.out.cut (k := j) (cap := cv) hj hcap)
                    clear e0 e1 e2 hci
                    go_upto_region 12 with fail
                    go_cut [9] (fun s9 wc => ∃ B6 c6, s9 = .slice B6 (j + 1) c6 ∧ Own casR 36 (fun g => w.heap.size ≤ g ∧ g < Y.heap.size) wc Y.heap.size (.slice B6 (j + 1) c6) (j + 1) (s.take j ++ [⟨e.person, dy * 86400, its⟩]) ∧ Ext Y wc)
                    case first =>
                      go_region_law (first | (refine step_append_Own (ok := fun g => w.heap.size ≤ g ∧ g < Y.heap.size) (R := casR) _ (by rfl) (.tmp 100) (.tmp 103) 25 (by rfl) 36 i1 _ 48 Y.heap.size Tryz.underlying25 hi1 hy0 hy1 hy2 rfl (by decide) (by rfl) (Own.new_nil (by first | exact blk_new _ _ | exact blk_old (blk_new _ _) _ | exact blk_new_ _ _ (by simp) | exact blk_old (blk_new_ _ _ (by simp)) _) (by first | omega | (simp; done) | (simp; omega))) _ j cv (s.take j) (by rfl) (Sl.src ((HslY.out.to_ hj).ext (by repeat (first | with_reducible exact Keeps.refl _ _ | with_reducible refine Keeps.drew ?_ | with_reducible refine Keeps.drewN ?_ _ | with_reducible refine Keeps.alloc ?_ _))) (fun g _ h => ⟨h, by intro e9; simp [Value.ownBlock] at e9; have := h.2; omega⟩)) (by omega) (by decide) (by first | omega | (simp; done) | (simp; omega)) ?_; intro A5 c5 w5 hown5 hg5 hat5; simp only [Nat.zero_add, List.nil_append] at hown5 hg5 hat5; have hx5 : Ext Y w5 := Keeps.grown (by repeat (first | with_reducible exact Keeps.refl _ _ | with_reducible refine Keeps.drew ?_ | with_reducible refine Keeps.drewN ?_ _ | with_reducible refine Keeps.alloc ?_ _)) hg5 (fun g hg hl => by simp [Value.ownBlock] at hg; omega); have k0 := (hx5.cell (p := ⟨g7, 0, none⟩) hb7Y trivial).trans y0; have k1 := (hx5.cell (p := ⟨g7, 1, none⟩) hb7Y trivial).trans y1; have k2 := (hx5.cell (p := ⟨g7, 2, none⟩) hb7Y trivial).trans y2; have hb5 := Nat.lt_of_lt_of_le hb7Y hx5.size; have hz5 := hx5.size) | (refine step_append_Own (ok := fun g => w.heap.size ≤ g ∧ g < Y.heap.size) (R := casR) _ (by rfl) (.tmp 104) (.tmp 106) 25 (by rfl) 36 i1 _ 48 Y.heap.size Tryz.underlying25 hi1 hy0 hy1 hy2 rfl (by decide) (by rfl) (hown5.ext (by repeat (first | with_reducible exact Keeps.refl _ _ | with_reducible refine Keeps.drew ?_ | with_reducible refine Keeps.drewN ?_ _ | with_reducible refine Keeps.alloc ?_ _))) _ 1 1 [⟨e.person, dy * 86400, its⟩] (by rfl) (Srcs.one_new ⟨AI, ci, rfl, Hci.out, ((HsiY.out.mono (fun g hg h => ⟨h, fun e9 => absurd (hown5.lt g e9).1 (by omega)⟩)).ext (by repeat (first | with_reducible exact hx5 | with_reducible exact Keeps.refl _ _ | with_reducible refine Keeps.drew ?_ | with_reducible refine Keeps.drewN ?_ _ | with_reducible refine Keeps.alloc ?_ _)))⟩ (by first | exact blk_new _ _ | exact (hg5.block _ (by first | omega | (simp; done) | (simp; omega)) (by simp [Value.ownBlock])).trans (by first | exact blk_new _ _ | exact blk_old (blk_new _ _) _ | exact blk_new_ _ _ (by simp) | exact blk_old (blk_new_ _ _ (by simp)) _)) rfl) (by omega) (by decide) (by first | omega | (simp; done) | (simp; omega)) ?_; intro A6 c6 w6 hown6 hg6 hat6; have hx6 : Ext Y w6 := Keeps.grown (by repeat (first | with_reducible exact hx5 | with_reducible exact Keeps.refl _ _ | with_reducible refine Keeps.drew ?_ | with_reducible refine Keeps.drewN ?_ _ | with_reducible refine Keeps.alloc ?_ _)) hg6 (fun g hg hl => by have := (hown5.lt g hg).1; omega)))
                      all_goals
                        go_wp2_with fail
                        go_meet
                        exact ⟨A6, c6, rfl, hown6, hx6⟩
                    case rest =>
                      obtain ⟨A6, c6, hv6, hown6, hx6⟩ := hcut
                      obtain ⟨w6, hw6⟩ : ∃ w6, w6 = wc := ⟨_, rfl⟩
                      rw [← hw6] at hown6 hx6 ⊢
                      subst hv6
                      have Hown6 := Lib.hid hown6
                      have Hx6 := Lib.hid hx6
                      have hz6 := hx6.size
                      clear hown6 hx6 hw6 y0 y1 y2
                      by_cases hcb : cv = j
                      · rw [if_pos hcb] at Hcut
                        (go_wp2_with (at_builtin; refine wpList_append_Own (ok := fun g => w.heap.size ≤ g ∧ g < Y.heap.size) (R := casR) _ rfl (.tmp 108) (.tmp 111) 25 rfl 36 i1 _ 48 Y.heap.size Tryz.underlying25 hi1 hy0 hy1 hy2 rfl (by decide) rfl Hown6.out _ (q - j) _ (s.drop j) rfl (Sl.src (Hcut.out.ext Hx6.out) (fun g _ h => ⟨h, fun e9 => absurd (Hown6.out.lt g e9).1 (by have := h.2; omega)⟩)) (by omega) (by decide) (by omega) ?_; intro A7 c7 w7 hown7 hg7 hat7; have Hown7 := Lib.hid hown7; have Hx7 := Lib.hid (show Ext Y w7 from Keeps.grown Hx6.out hg7 (fun g hg hl => by have := (Hown6.out.lt g hg).1; omega)); clear hown7 hg7 hat7); go_roundw; (case rel => exact Hfin.out _ _ _ Hx7.out Hown7.out); (case measure => (simp [intOf]; omega)))
                      · rw [if_neg hcb] at Hcut
                        simp only [show casR.size = 3 from rfl] at Hcut
                        (go_wp2_with (at_builtin; refine wpList_append_Own (ok := fun g => w.heap.size ≤ g ∧ g < Y.heap.size) (R := casR) _ rfl (.tmp 108) (.tmp 111) 25 rfl 36 i1 _ 48 Y.heap.size Tryz.underlying25 hi1 hy0 hy1 hy2 rfl (by decide) rfl Hown6.out _ (q - j) _ (s.drop j) rfl (Sl.src (Hcut.out.ext Hx6.out) (fun g _ h => ⟨h, fun e9 => absurd (Hown6.out.lt g e9).1 (by have := h.2; omega)⟩)) (by omega) (by decide) (by omega) ?_; intro A7 c7 w7 hown7 hg7 hat7; have Hown7 := Lib.hid hown7; have Hx7 := Lib.hid (show Ext Y w7 from Keeps.grown Hx6.out hg7 (fun g hg hl => by have := (Hown6.out.lt g hg).1; omega)); clear hown7 hg7 hat7); go_roundw; (case rel => exact Hfin.out _ _ _ Hx7.out Hown7.out); (case measure => (simp [intOf]; omega)))
                  · obtain ⟨hj0, z, hz, hlt9⟩ := hT rfl
                    have Hz := Lib.hid hz
                    have Hlt := Lib.hid hlt9
                    clear hT hF hz hlt9
                    go_wp2_with fail
                    go_roundw
                    case rel =>
                      refine ⟨j - 1, by omega, by congr 1; omega, fun y' hy' => ?_, HxY.out⟩
                      have hj1 : j - 1 < s.length := by have := Hol.out; omega
                      rw [List.drop_eq_getElem_cons hj1] at hy'
                      rcases List.mem_cons.1 hy' with h9 | h9
                      · rw [h9]
                        have := Hz.out
                        rw [List.getElem?_eq_getElem hj1] at this
                        rw [Option.some.inj this]; exact Hlt.out
                      · rw [show j - 1 + 1 = j by omega] at h9
                        exact Hgt.out y' h9
                    case measure => (simp [intOf]; omega)
            · have Hq := Lib.hid (show refStep la s e = s by rw [Hstep.out, hn2]; rfl)
              go_wp2_with (first
                | (go_at_call 19; refine HT.out.mono ?_; rintro _ Z ⟨rfl, hxZ⟩; have HxZ := Lib.hid hxZ; have e0 := (hxZ.cell (p := ⟨g7, 0, none⟩) hb7 trivial).trans f0; have e1 := (hxZ.cell (p := ⟨g7, 1, none⟩) hb7 trivial).trans f1; have e2 := (hxZ.cell (p := ⟨g7, 2, none⟩) hb7 trivial).trans f2; have hb7Z := Nat.lt_of_lt_of_le hb7 hxZ.size; clear hxZ)
                | (go_at_call 20; refine (HTh.out _ HxZ.out).mono ?_; rintro _ Y ⟨rfl, rfl⟩))
              go_roundw
              case rel => exact HK.out _ HxZ.out Hq.out
              case measure => simp [intOf]; omega
    · obtain rfl : k = m := by omega
      have HE := Lib.hid (show Own casR 36 (fun g => w.heap.size ≤ g) wr w.heap.size (.slice D q cv) q (casesR la) by have h := Hown.out; rw [List.take_of_length_le (Nat.le_of_eq Hl.out)] at h; exact h)
      have Hx2 := Lib.hid (HxX.out.trans Hx.out)
      go_wp2_with fail
      go_ret
      exact ⟨D, q, cv, rfl, HE.out, Hx2.out⟩
end Go.Proofs.YtpkkkhgmkndpdaaGreatDoor
namespace Go.Proofs.YtpkkkhgmkndpdaaGreatDoor
open Go Go.RowKit Go.Proofs
attribute [local go_sem ↓] Go.wp_at_zero Go.wp_at_succ
set_option maxRecDepth 100000 in
set_option maxHeartbeats 4000000 in
theorem rf_SameC (A B : Option Addr) (n c d : Nat) (l : List Cas) (ok ok' : Nat → Prop) (w : World) (ha : Sl casR ok w A n l) (hb : Sl casR ok' w B n l) (hn : n ≤ 100000) (hi : ∀ x ∈ l, x.items.length ≤ 1000000) :
    Calls Tryz.prog 9 #[.slice A n c, .slice B n d] w fun r w' => r = .returned (.bool true) ∧ Ext w w' := by
  have Ha := Lib.hid ha
  have Hb := Lib.hid hb
  have Hi := Lib.hid hi
  clear ha hb hi
  go_enter Tryz.func9, Tryz.ntmps9
  go_wp2_with fail
  go_loopw [5] (fun i wr => ∃ k : Nat, k ≤ n ∧ i = .int .i64 k ∧ Ext w wr) (fun i _ => n - (intOf i).toNat)
  case atStart => exact ⟨0, Nat.zero_le _, rfl, Keeps.refl _ _⟩
  case round =>
    obtain ⟨k, hk, rfl, hx⟩ := hrel
    have Hx := Lib.hid hx
    clear hx
    by_cases hlt : k < n
    · obtain ⟨b1, o1, x, A1, c1, rfl, hb1, _, hx1, _, hs1, z0, z1, z2⟩ := (Ha.out.ext Hx.out).cas hlt
      obtain ⟨b2, o2, x', A2, c2, rfl, hb2, _, hx2, _, hs2, y0, y1, y2⟩ := (Hb.out.ext Hx.out).cas hlt
      obtain rfl : x = x' := by rw [hx1] at hx2; injection hx2
      have hil := Hi.out x (List.mem_of_getElem? hx1)
      have i0 : (0 : Int) ≤ (k : Int) := by omega
      have i1 : (k : Int) < (n : Int) := by omega
      have Hs1 := Lib.hid hs1
      have Hs2 := Lib.hid hs2
      obtain ⟨ni, hni⟩ : ∃ ni, ni = x.items.length := ⟨_, rfl⟩
      have CT := Lib.hid (fun (Z : World) (hZ : Ext wr Z) => (show Calls Tryz.prog 11 #[.slice A1 ni c1, .slice A2 ni c2] Z fun r w' => r = .returned (.bool true) ∧ Ext Z w' from by
        rw [hni]
        refine (texts_yes A1 A2 _ c1 c2 x.items ok ok' Z (hs1.ext hZ) (hs2.ext hZ) hil).mono ?_
        rintro _ _ ⟨rfl, q, rfl⟩
        exact ⟨rfl, (Keeps.refl _ _).drewN _⟩))
      rw [← hni] at z2 y2
      clear hx1 hx2 hni hs1 hs2
      go_upto_region 6 with fail
      refine wp_region_ext wr (Keeps.refl _ _) (by kernel_rfl) (by kernel_rfl) ?_
      have hcell := fun (y : XW wr) => y.cell
      repeat (go_big_quiet_step (first | (go_at_call 11; with_reducible exact ext_calls (CT.out _ (XW.h _)))))
      refine wpQuiet_nil ?_
      rintro _ ⟨y, rfl⟩
      clear hcell
      go_wp2_with fail
      go_roundw
      case rel => exact ⟨k + 1, by omega, by go_num, Hx.out.trans y.h⟩
      case measure => (simp [intOf]; omega)
    · go_wp2_with fail
      go_ret
      exact ⟨rfl, Hx.out⟩
end Go.Proofs.YtpkkkhgmkndpdaaGreatDoor
