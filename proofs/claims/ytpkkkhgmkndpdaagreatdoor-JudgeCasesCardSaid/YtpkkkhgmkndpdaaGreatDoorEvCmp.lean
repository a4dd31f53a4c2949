/-
  What is proved here: the cells of an event, and three new blocks. No condition.
  the order of events: the program's Compare and Same, the document's Less, are the plain functions. Conditions: none.
-/
import Derived.Test.YtpkkkhgmkndpdaaGreatDoorEvM
import Derived.Test.YtpkkkhgmkndpdaaGreatDoorShelf
import Derived.Deep.RegionHeld3
import Derived.Deep.DeepCutAuto
import Derived.Deep.DrawnRows
import Derived.Sort.Walk0
import Derived.Laws.Closers25b
namespace Go.Proofs.YtpkkkhgmkndpdaaGreatDoor
open Go Go.RowKit Go.Proofs
def evC (e : Ev) : Array Value := #[.string e.src, .int .i64 e.num, .int .i64 e.tick, .int .i64 e.kind, .string e.person, .string e.item, .int .i64 e.value, .string e.text]
theorem three_new (w : World) (A B C : Obj) : (((w.alloc A).alloc B).alloc C).heap[w.heap.size]? = some A ∧ (((w.alloc A).alloc B).alloc C).heap[w.heap.size + 1]? = some B ∧ (((w.alloc A).alloc B).alloc C).heap[w.heap.size + 1 + 1]? = some C := by
  refine ⟨blk_old (blk_old (blk_new w A) B) C, blk_old ?_ C, ?_⟩
  · have := blk_new (w.alloc A) B
    simpa using this
  · have := blk_new ((w.alloc A).alloc B) C
    simpa using this
end Go.Proofs.YtpkkkhgmkndpdaaGreatDoor
namespace Go.Proofs.YtpkkkhgmkndpdaaGreatDoor
open Go Go.RowKit Go.Proofs
attribute [local go_sem ↓] Go.wp_at_zero Go.wp_at_succ

/-! ### the plain order -/
def cmpS (a b : ByteArray) : Int := Lib.compareBytes a.data.toList b.data.toList
def orI (x y z : Int) : Int := if x ≠ 0 then x else if y ≠ 0 then y else z
def cmpE (a b : Ev) : Int := orI (Lib.compareInt a.tick b.tick) (cmpS a.src b.src) (Lib.compareInt a.num b.num)
def lessE (a b : Ev) : Bool := if a.tick ≠ b.tick then decide (a.tick < b.tick) else if (a.src == b.src) = false then ltB a.src b.src else decide (a.num < b.num)
def sameE (a b : Ev) : Bool := (a.src == b.src) && decide (a.num = b.num)
theorem cmpB_less : ∀ a b : List UInt8, (Lib.compareBytes a b = -1 ∧ Op.bytesLess a b = true ∧ Op.bytesLess b a = false ∧ a ≠ b) ∨ (Lib.compareBytes a b = 0 ∧ Op.bytesLess a b = false ∧ Op.bytesLess b a = false ∧ a = b) ∨ (Lib.compareBytes a b = 1 ∧ Op.bytesLess a b = false ∧ Op.bytesLess b a = true ∧ a ≠ b)
  | [], [] => .inr (.inl ⟨rfl, rfl, rfl, rfl⟩)
  | [], _ :: _ => .inl ⟨rfl, rfl, rfl, by simp⟩
  | _ :: _, [] => .inr (.inr ⟨rfl, rfl, rfl, by simp⟩)
  | x :: a, y :: b => by
    simp only [Lib.compareBytes, Op.bytesLess]
    by_cases h1 : x < y
    · have h2 : ¬ y < x := fun h => UInt8.lt_irrefl x (UInt8.lt_trans h1 h)
      have h3 : x ≠ y := fun e => by subst e; exact h2 h1
      exact .inl ⟨by simp [h1], by simp [h1], by simp [h2, Ne.symm h3], by simp [h3]⟩
    · by_cases h2 : y < x
      · have h3 : x ≠ y := fun e => by subst e; exact h1 h2
        exact .inr (.inr ⟨by simp [h1, h2], by simp [h1, h3], by simp [h2], by simp [h3]⟩)
      · have h3 : x = y := by
          rw [← UInt8.toNat_inj]
          rw [UInt8.lt_iff_toNat_lt] at h1 h2
          omega
        subst h3
        rcases cmpB_less a b with ⟨e1, e2, e3, e4⟩ | ⟨e1, e2, e3, e4⟩ | ⟨e1, e2, e3, e4⟩
        · exact .inl ⟨by simp [e1], by simp [e2], by simp [e3], by simp [e4]⟩
        · exact .inr (.inl ⟨by simp [e1], by simp [e2], by simp [e3], by simp [e4]⟩)
        · exact .inr (.inr ⟨by simp [e1], by simp [e2], by simp [e3], by simp [e4]⟩)
theorem cmpS_cases (a b : ByteArray) : (cmpS a b = -1 ∧ ltB a b = true ∧ ltB b a = false ∧ a ≠ b) ∨ (cmpS a b = 0 ∧ ltB a b = false ∧ ltB b a = false ∧ a = b) ∨ (cmpS a b = 1 ∧ ltB a b = false ∧ ltB b a = true ∧ a ≠ b) := by
  unfold cmpS ltB
  rw [ByteArray.toList_eq, ByteArray.toList_eq]
  have hne : a.data.toList ≠ b.data.toList ↔ a ≠ b := not_congr ⟨fun h => ByteArray.ext (Array.toList_inj.1 h), fun h => by rw [h]⟩
  rcases cmpB_less a.data.toList b.data.toList with ⟨h1, h2, h3, h4⟩ | ⟨h1, h2, h3, h4⟩ | ⟨h1, h2, h3, h4⟩
  · exact .inl ⟨h1, h2, h3, hne.1 h4⟩
  · exact .inr (.inl ⟨h1, h2, h3, ByteArray.ext (Array.toList_inj.1 h4)⟩)
  · exact .inr (.inr ⟨h1, h2, h3, hne.1 h4⟩)
theorem ltB_trans {a b c : ByteArray} (h1 : ltB a b = true) (h2 : ltB b c = true) : ltB a c = true := by
  unfold ltB at *
  rw [Proofs.bytesLess_eq, decide_eq_true_eq] at *
  exact List.lt_trans h1 h2
theorem beqB_self (a : ByteArray) : (a == a) = true := by show (a.data == a.data) = true; simp
theorem beqB_iff {a b : ByteArray} : (a == b) = true ↔ a = b := by
  constructor
  · intro h
    have e : a.data = b.data := by simpa using (show (a.data == b.data) = true from h)
    exact ByteArray.ext e
  · intro h; subst h; exact beqB_self _
theorem beqB_false {a b : ByteArray} (h : a ≠ b) : (a == b) = false := by rw [Bool.eq_false_iff, ne_eq, beqB_iff]; exact h
theorem cmpS_both (a b : ByteArray) : (cmpS a b = -1 ∧ cmpS b a = 1 ∧ ltB a b = true ∧ ltB b a = false ∧ a ≠ b) ∨ (cmpS a b = 0 ∧ cmpS b a = 0 ∧ a = b) ∨ (cmpS a b = 1 ∧ cmpS b a = -1 ∧ ltB a b = false ∧ ltB b a = true ∧ a ≠ b) := by
  rcases cmpS_cases a b with ⟨h1, h2, h3, h4⟩ | ⟨h1, h2, h3, h4⟩ | ⟨h1, h2, h3, h4⟩ <;> rcases cmpS_cases b a with ⟨g1, g2, g3, g4⟩ | ⟨g1, g2, g3, g4⟩ | ⟨g1, g2, g3, g4⟩
  all_goals first
    | exact .inl ⟨h1, g1, h2, h3, h4⟩
    | exact .inr (.inl ⟨h1, g1, h4⟩)
    | exact .inr (.inr ⟨h1, g1, h2, h3, h4⟩)
    | exact absurd g4.symm h4
    | exact absurd h4.symm g4
    | (rw [h3] at g2; exact absurd g2 (by decide))
    | (rw [h2] at g3; exact absurd g3 (by decide))
theorem cmpI_lt {x y : Int} (h : x < y) : Lib.compareInt x y = -1 ∧ Lib.compareInt y x = 1 := by
  unfold Lib.compareInt
  exact ⟨if_pos h, by rw [if_neg (by omega), if_pos h]⟩
theorem cmpI_self (x : Int) : Lib.compareInt x x = 0 := by unfold Lib.compareInt; simp
theorem orI_neg (y z : Int) : orI (-1) y z = -1 := by unfold orI; rw [if_pos (by decide)]
theorem orI_one (y z : Int) : orI 1 y z = 1 := by unfold orI; rw [if_pos (by decide)]
theorem orI_zero (y z : Int) : orI 0 y z = if y ≠ 0 then y else z := by unfold orI; rw [if_neg (by decide)]
/-- Which of three an order tells. -/
theorem cmpE_cases (a b : Ev) : (cmpE a b = -1 ∧ cmpE b a = 1 ∧ lessE a b = true ∧ lessE b a = false) ∨ (cmpE a b = 0 ∧ cmpE b a = 0 ∧ lessE a b = false ∧ lessE b a = false ∧ a.tick = b.tick ∧ a.src = b.src ∧ a.num = b.num) ∨ (cmpE a b = 1 ∧ cmpE b a = -1 ∧ lessE a b = false ∧ lessE b a = true) := by
  unfold cmpE lessE
  rcases Int.lt_trichotomy a.tick b.tick with h | h | h
  · obtain ⟨e1, e2⟩ := cmpI_lt h
    refine .inl ⟨by rw [e1, orI_neg], by rw [e2, orI_one], ?_, ?_⟩
    · rw [if_pos (by omega)]; simpa using h
    · rw [if_pos (by omega)]; simp; omega
  · rw [h, cmpI_self, orI_zero, orI_zero]
    simp only [ne_eq, not_true_eq_false, if_false]
    rcases cmpS_both a.src b.src with ⟨s1, s2, s3, s4, s5⟩ | ⟨s1, s2, s3⟩ | ⟨s1, s2, s3, s4, s5⟩
    · rw [beqB_false s5, beqB_false (Ne.symm s5), s1, s2, s3, s4]
      exact .inl ⟨if_pos (by decide), if_pos (by decide), if_pos rfl, if_pos rfl⟩
    · rw [s1, s2, s3, beqB_self]
      simp only [not_true_eq_false, if_false, Bool.true_eq_false]
      rcases Int.lt_trichotomy a.num b.num with g | g | g
      · obtain ⟨e1, e2⟩ := cmpI_lt g
        exact .inl ⟨e1, e2, by simpa using g, by simp; omega⟩
      · rw [g, cmpI_self]
        exact .inr (.inl (by simp))
      · obtain ⟨e1, e2⟩ := cmpI_lt g
        exact .inr (.inr ⟨e2, e1, by simp; omega, by simpa using g⟩)
    · rw [beqB_false s5, beqB_false (Ne.symm s5), s1, s2, s3, s4]
      exact .inr (.inr ⟨if_pos (by decide), if_pos (by decide), if_pos rfl, if_pos rfl⟩)
  · obtain ⟨e1, e2⟩ := cmpI_lt h
    refine .inr (.inr ⟨by rw [e2, orI_one], by rw [e1, orI_neg], ?_, ?_⟩)
    · rw [if_pos (by omega)]; simp; omega
    · rw [if_pos (by omega)]; simpa using h
theorem lessE_iff (a b : Ev) : lessE a b = true ↔ a.tick < b.tick ∨ (a.tick = b.tick ∧ (ltB a.src b.src = true ∨ (a.src = b.src ∧ a.num < b.num))) := by
  unfold lessE
  by_cases h : a.tick = b.tick
  · rw [if_neg (by simpa using h)]
    rcases cmpS_both a.src b.src with ⟨_, _, s3, s4, s5⟩ | ⟨_, _, s3⟩ | ⟨_, _, s3, s4, s5⟩
    · rw [beqB_false s5, if_pos rfl, s3]; simp [h]
    · have hlt : ltB b.src b.src = false := by rcases cmpS_cases b.src b.src with ⟨_, _, _, h⟩ | ⟨_, h, _⟩ | ⟨_, _, _, h⟩
                                               · exact absurd rfl h
                                               · exact h
                                               · exact absurd rfl h
      rw [s3, beqB_self, if_neg (by decide), hlt]; simp [h]
    · rw [beqB_false s5, if_pos rfl, s3]; simp [h, s5]
  · rw [if_pos h]; simp [h]
theorem lessE_trans {a b c : Ev} (h1 : lessE a b = true) (h2 : lessE b c = true) : lessE a c = true := by
  rw [lessE_iff] at *
  rcases h1 with h1 | ⟨h1, h1'⟩ <;> rcases h2 with h2 | ⟨h2, h2'⟩
  · exact .inl (by omega)
  · exact .inl (by omega)
  · exact .inl (by omega)
  · refine .inr ⟨by omega, ?_⟩
    rcases h1' with h1' | ⟨h1', h1''⟩ <;> rcases h2' with h2' | ⟨h2', h2''⟩
    · exact .inl (ltB_trans h1' h2')
    · exact .inl (by rw [← h2']; exact h1')
    · exact .inl (by rw [h1']; exact h2')
    · exact .inr ⟨h1'.trans h2', by omega⟩
theorem cmpE_self (a : Ev) : cmpE a a = 0 := by
  rcases cmpE_cases a a with ⟨h1, h2, _⟩ | ⟨h, _⟩ | ⟨h1, h2, _⟩
  · omega
  · exact h
  · omega
theorem cmpE_eq {a b : Ev} (h1 : a.tick = b.tick) (h2 : a.src = b.src) (h3 : a.num = b.num) (c : Ev) : cmpE a c = cmpE b c ∧ cmpE c a = cmpE c b := by
  unfold cmpE; rw [h1, h2, h3]; exact ⟨rfl, rfl⟩
/-- From the first over the second to the third. -/
theorem cmpE_trans {a b c : Ev} (h1 : cmpE a b ≤ 0) (h2 : cmpE b c ≤ 0) : cmpE a c ≤ 0 ∧ (cmpE a c = 0 → cmpE a b = 0 ∧ cmpE b c = 0) := by
  rcases cmpE_cases a b with ⟨x1, _, x3, _⟩ | ⟨x1, _, _, _, x5, x6, x7⟩ | ⟨x1, _⟩
  · rcases cmpE_cases b c with ⟨y1, _, y3, _⟩ | ⟨y1, _, _, _, y5, y6, y7⟩ | ⟨y1, _⟩
    · have h := lessE_trans x3 y3
      rcases cmpE_cases a c with ⟨z1, _⟩ | ⟨_, _, z3, _⟩ | ⟨_, _, z3, _⟩
      · omega
      · rw [h] at z3; cases z3
      · rw [h] at z3; cases z3
    · have := (cmpE_eq y5 y6 y7 a).2; omega
    · omega
  · have := (cmpE_eq x5 x6 x7 c).1; omega
  · omega

/-! ### the walks -/
set_option maxRecDepth 100000 in
set_option maxHeartbeats 2000000 in
theorem cmp_Or (g : Nat) (x y z : Int) (t : TypeId) (fr : Nat × Nat) (w : World) (hg : w.heap[g]? = some (.cells #[.int .i64 x, .int .i64 y, .int .i64 z] t fr)) :
    Calls Tryz.prog 28 #[.slice (some ⟨g, 0, none⟩) 3 3] w fun e w' => e = .returned (.int .i64 (orI x y z)) ∧ w = w' := by
  have q0 := blk_cell hg 0 rfl
  have q1 := blk_cell hg 1 rfl
  have q2 := blk_cell hg 2 rfl
  clear hg
  cases h1 : (x != 0)
  · have hx : x = 0 := by simpa using h1
    cases h2 : (y != 0)
    · have hy : y = 0 := by simpa using h2
      have Hf := Lib.hid (show orI x y z = z by unfold orI; rw [if_neg (by simpa using hx), if_neg (by simpa using hy)])
      cases h3 : (z != 0)
      · have hz : z = 0 := by simpa using h3
        have Hz := Lib.hid hz
        clear hx hy hz
        go_enter Tryz.func28, Tryz.ntmps28
        go_wp2_with fail
        go_loop [8] (fun i => i = .int .i64 0 ∨ i = .int .i64 1 ∨ i = .int .i64 2 ∨ i = .int .i64 3) (fun i => 3 - (intOf i).toNat)
        case atStart => exact .inl rfl
        case round =>
          rcases hrel with rfl | rfl | rfl | rfl
          · go_wp2_with fail
            go_round
            case rel => exact .inr (.inl rfl)
            case measure => simp [intOf]
          · go_wp2_with fail
            go_round
            case rel => exact .inr (.inr (.inl rfl))
            case measure => simp [intOf]
          · go_wp2_with fail
            go_round
            case rel => exact .inr (.inr (.inr rfl))
            case measure => simp [intOf]
          · go_wp2_with fail
            go_ret
            exact ⟨by rw [Hf.out, Hz.out]; rfl, rfl⟩
      · clear hx hy
        go_enter Tryz.func28, Tryz.ntmps28
        go_wp2_with fail
        go_loop [8] (fun i => i = .int .i64 0 ∨ i = .int .i64 1 ∨ i = .int .i64 2) (fun i => 3 - (intOf i).toNat)
        case atStart => exact .inl rfl
        case round =>
          rcases hrel with rfl | rfl | rfl
          · go_wp2_with fail
            go_round
            case rel => exact .inr (.inl rfl)
            case measure => simp [intOf]
          · go_wp2_with fail
            go_round
            case rel => exact .inr (.inr rfl)
            case measure => simp [intOf]
          · go_wp2_with fail
            go_ret
            exact ⟨by rw [Hf.out]; rfl, rfl⟩
    · have Hf := Lib.hid (show orI x y z = y by unfold orI; rw [if_neg (by simpa using hx), if_pos (by simpa using h2)])
      clear hx
      go_enter Tryz.func28, Tryz.ntmps28
      go_wp2_with fail
      go_loop [8] (fun i => i = .int .i64 0 ∨ i = .int .i64 1) (fun i => 3 - (intOf i).toNat)
      case atStart => exact .inl rfl
      case round =>
        rcases hrel with rfl | rfl
        · go_wp2_with fail
          go_round
          case rel => exact .inr rfl
          case measure => simp [intOf]
        · go_wp2_with fail
          go_ret
          exact ⟨by rw [Hf.out]; rfl, rfl⟩
  · have Hf := Lib.hid (show orI x y z = x by unfold orI; rw [if_pos (by simpa using h1)])
    go_enter Tryz.func28, Tryz.ntmps28
    go_wp2_with fail
    go_loop [8] (fun i => i = .int .i64 0) (fun i => 3 - (intOf i).toNat)
    case atStart => rfl
    case round =>
      obtain rfl := hrel
      go_wp2_with fail
      go_ret
      exact ⟨by rw [Hf.out]; rfl, rfl⟩

set_option maxRecDepth 100000 in
set_option maxHeartbeats 4000000 in
theorem ev_Compare (a b : Ev) (w : World) :
    Calls Tryz.prog 46 #[.agg #[.string a.src, .int .i64 a.num, .int .i64 a.tick, .int .i64 a.kind, .string a.person, .string a.item, .int .i64 a.value, .string a.text], .agg #[.string b.src, .int .i64 b.num, .int .i64 b.tick, .int .i64 b.kind, .string b.person, .string b.item, .int .i64 b.value, .string b.text]] w fun r w' => r = .returned (.int .i64 (cmpE a b)) ∧ Ext w w' := by
  obtain ⟨c1, hc1⟩ : ∃ c, c = Lib.compareInt a.tick b.tick := ⟨_, rfl⟩
  obtain ⟨c2, hc2⟩ : ∃ c, c = cmpS a.src b.src := ⟨_, rfl⟩
  obtain ⟨c3, hc3⟩ : ∃ c, c = Lib.compareInt a.num b.num := ⟨_, rfl⟩
  have Hf := Lib.hid (show cmpE a b = orI c1 c2 c3 by unfold cmpE; rw [hc1, hc2, hc3])
  have C1 := Lib.hid (fun W : World => show Calls Tryz.prog 29 #[.int .i64 a.tick, .int .i64 b.tick] W (fun r w' => r = .returned (.int .i64 c1) ∧ Ext W w') by rw [hc1]; exact (Tryz.cmp_Compare_int a.tick b.tick W).mono fun _ _ ⟨h1, h2⟩ => ⟨h1, h2 ▸ Keeps.refl _ _⟩)
  have C2 := Lib.hid (fun W : World => show Calls Tryz.prog 73 #[.string a.src, .string b.src] W (fun r w' => r = .returned (.int .i64 c2) ∧ Ext W w') by rw [hc2]; exact (Tryz.strings_Compare a.src b.src W).mono fun _ _ ⟨h1, h2⟩ => ⟨h1, h2 ▸ Keeps.refl _ _⟩)
  have C3 := Lib.hid (fun W : World => show Calls Tryz.prog 29 #[.int .i64 a.num, .int .i64 b.num] W (fun r w' => r = .returned (.int .i64 c3) ∧ Ext W w') by rw [hc3]; exact (Tryz.cmp_Compare_int a.num b.num W).mono fun _ _ ⟨h1, h2⟩ => ⟨h1, h2 ▸ Keeps.refl _ _⟩)
  clear hc1 hc2 hc3
  go_enter Tryz.func46, Tryz.ntmps46
  go_wp2_with fail
  obtain ⟨X, hX⟩ : ∃ X, X = (w.alloc (.cells #[.string a.src, .int .i64 a.num, .int .i64 a.tick, .int .i64 a.kind, .string a.person, .string a.item, .int .i64 a.value, .string a.text] 30)).alloc (.cells #[.string b.src, .int .i64 b.num, .int .i64 b.tick, .int .i64 b.kind, .string b.person, .string b.item, .int .i64 b.value, .string b.text] 30) := ⟨_, rfl⟩
  rw [← hX]
  have ga : X.heap[w.heap.size]? = some (.cells #[.string a.src, .int .i64 a.num, .int .i64 a.tick, .int .i64 a.kind, .string a.person, .string a.item, .int .i64 a.value, .string a.text] 30) := by rw [hX]; exact blk_old (blk_new _ _) _
  have gb : X.heap[w.heap.size + 1]? = some (.cells #[.string b.src, .int .i64 b.num, .int .i64 b.tick, .int .i64 b.kind, .string b.person, .string b.item, .int .i64 b.value, .string b.text] 30) := by
    rw [hX]
    have := blk_new (w.alloc (.cells #[.string a.src, .int .i64 a.num, .int .i64 a.tick, .int .i64 a.kind, .string a.person, .string a.item, .int .i64 a.value, .string a.text] 30)) (.cells #[.string b.src, .int .i64 b.num, .int .i64 b.tick, .int .i64 b.kind, .string b.person, .string b.item, .int .i64 b.value, .string b.text] 30)
    simpa using this
  have hxX : Ext w X := by rw [hX]; exact ((Keeps.refl _ _).alloc _).alloc _
  have HxX := Lib.hid hxX
  have s1 : w.heap.size < X.heap.size := (Array.getElem?_eq_some_iff.1 ga).1
  have s2 : w.heap.size + 1 < X.heap.size := (Array.getElem?_eq_some_iff.1 gb).1
  have a0 := blk_cell ga 0 rfl
  have a1 := blk_cell ga 1 rfl
  have a2 := blk_cell ga 2 rfl
  have b0 := blk_cell gb 0 rfl
  have b1 := blk_cell gb 1 rfl
  have b2 := blk_cell gb 2 rfl
  clear hX hxX ga gb
  go_region_held3 (fun w' => X.heap.size ≤ w'.heap.size ∧ ∀ p : Addr, p.block < X.heap.size → w'.cell? p = X.cell? p) (repeat (first | with_reducible assumption | with_reducible exact Old.refl _ | with_reducible refine Old.drew ?_ | with_reducible refine Old.alloc ?_ _)) (first
    | (go_at_call 29; (with_reducible refine (C1.out _).mono ?_); rintro _ w4 ⟨rfl, hx4⟩; have hy : Ext X w4 := Keeps.trans (by first | assumption | (with_reducible exact Keeps.refl _ _) | (with_reducible exact (Keeps.refl _ _).drew) | (with_reducible exact Keeps.drew (by assumption)) | (with_reducible exact Keeps.alloc (by assumption) _)) hx4; have hO : Old X w4 := Old.of_ext hy; clear hx4)
    | (go_at_call 73; (with_reducible refine (C2.out _).mono ?_); rintro _ w4 ⟨rfl, hx4⟩; have hy : Ext X w4 := Keeps.trans (by first | assumption | (with_reducible exact Keeps.refl _ _) | (with_reducible exact (Keeps.refl _ _).drew) | (with_reducible exact Keeps.drew (by assumption)) | (with_reducible exact Keeps.alloc (by assumption) _)) hx4; have hO : Old X w4 := Old.of_ext hy; clear hx4)
    | (go_at_call 29; (with_reducible refine (C3.out _).mono ?_); rintro _ w4 ⟨rfl, hx4⟩; have hy : Ext X w4 := Keeps.trans (by first | assumption | (with_reducible exact Keeps.refl _ _) | (with_reducible exact (Keeps.refl _ _).drew) | (with_reducible exact Keeps.drew (by assumption)) | (with_reducible exact Keeps.alloc (by assumption) _)) hx4; have hO : Old X w4 := Old.of_ext hy; clear hx4)
    | (go_at_call 28; refine (cmp_Or _ c1 c2 c3 _ _ _ (blk_new _ _)).mono ?_; rintro _ w4 ⟨rfl, rfl⟩))
  go_wp2_with fail
  go_ret
  exact ⟨by rw [Hf.out]; rfl, HxX.out.trans (Keeps.alloc hy _)⟩

set_option maxRecDepth 100000 in
set_option maxHeartbeats 2000000 in
theorem ref_Less (a b : Ev) (w : World) :
    Calls Tryz.prog 61 #[.agg #[.string a.src, .int .i64 a.num, .int .i64 a.tick, .int .i64 a.kind, .string a.person, .string a.item, .int .i64 a.value, .string a.text], .agg #[.string b.src, .int .i64 b.num, .int .i64 b.tick, .int .i64 b.kind, .string b.person, .string b.item, .int .i64 b.value, .string b.text]] w fun r w' => r = .returned (.bool (lessE a b)) ∧ Ext w w' := by
  have Hx := Lib.hid (fun (o1 o2 : Obj) => show Ext w ((w.alloc o1).alloc o2) from ((Keeps.refl _ _).alloc _).alloc _)
  by_cases h1 : a.tick = b.tick
  · cases h2 : (a.src == b.src) <;> have h2' := h2 <;> rw [beq_toListBytes] at h2'
    · have Hf := Lib.hid (show lessE a b = Op.bytesLess a.src.toList b.src.toList by unfold lessE; rw [if_neg (by simpa using h1), if_pos h2]; rfl)
      have h3 : (a.tick != b.tick) = false := by simpa using h1
      clear h1
      go_enter Tryz.func61, Tryz.ntmps61
      go_wp2_with fail
      go_ret
      exact ⟨by rw [Hf.out]; rfl, Hx.out _ _⟩
    · have Hf := Lib.hid (show lessE a b = decide (a.num < b.num) by unfold lessE; rw [if_neg (by simpa using h1), if_neg (by rw [h2]; decide)])
      have h3 : (a.tick != b.tick) = false := by simpa using h1
      clear h1
      go_enter Tryz.func61, Tryz.ntmps61
      go_wp2_with fail
      go_ret
      exact ⟨by rw [Hf.out]; rfl, Hx.out _ _⟩
  · have Hf := Lib.hid (show lessE a b = decide (a.tick < b.tick) by unfold lessE; rw [if_pos h1])
    have h3 : (a.tick != b.tick) = true := by simpa using h1
    clear h1
    go_enter Tryz.func61, Tryz.ntmps61
    go_wp2_with fail
    go_ret
    exact ⟨by rw [Hf.out]; rfl, Hx.out _ _⟩
end Go.Proofs.YtpkkkhgmkndpdaaGreatDoor
