/-
  What is proved here: the library's sort.Search over the catalog's function: the first place at which it holds. Conditions: at most 2^30 places; the function is true behind a place and false ahead of it.
  the catalog, as an object; New, At. Conditions: rows of things are rising by their ticks.
  an event more for the catalog (Apply). Conditions: the event may be, is one of a thing, and stands behind all ahead of it.
-/
import Derived.Test.YtpkkkhgmkndpdaaGreatDoorOb
import Derived.Test.YtpkkkhgmkndpdaaGreatDoorEvM
import Derived.Deep.DrawnRows
import Derived.Laws.Closers25b
import Derived.Deep.DeepCutAuto
import Derived.Test.YtpkkkhgmkndpdaaGreatDoorBase
import Derived.Test.YtpkkkhgmkndpdaaGreatDoorEvMay
import Derived.Test.YtpkkkhgmkndpdaaGreatDoorEvCmp
import Derived.Deep.RegionWith
import Derived.Deep.RegionHeld3
import Derived.Deep.CutBlock
namespace Go.Proofs.YtpkkkhgmkndpdaaGreatDoor
open Go Go.RowKit Go.Proofs
attribute [local go_sem ↓] Go.wp_at_zero Go.wp_at_succ
set_option maxRecDepth 100000 in
set_option maxHeartbeats 2000000 in
theorem sort_Search (n c g8 g5 : Nat) (p : Nat → Bool) (w : World) (hn : n ≤ 1073741824) (hc : c ≤ n) (hlo : ∀ i, i < c → p i = false) (hhi : ∀ i, c ≤ i → i < n → p i = true)
    (hcl : ∀ (W : World) (i : Nat), Ext w W → i < n → Calls Tryz.prog 101 #[.int .i64 (i : Int), .pointer (some ⟨g8, 0, none⟩), .pointer (some ⟨g5, 0, none⟩)] W fun r w' => r = .returned (.bool (p i)) ∧ Ext W w') :
    Calls Tryz.prog 100 #[.int .i64 (n : Int), .func (.func 101) #[] #[.pointer (some ⟨g8, 0, none⟩), .pointer (some ⟨g5, 0, none⟩)]] w fun r w' => r = .returned (.int .i64 (c : Int)) ∧ Ext w w' := by
  have Hlo := Lib.hid hlo
  have Hhi := Lib.hid hhi
  have Hcl := Lib.hid hcl
  clear hlo hhi hcl
  go_enter Tryz.func100, Tryz.ntmps100
  go_wp2_with fail
  go_loopw [5, 6] (fun i j wr => ∃ a b : Nat, i = .int .i64 (a : Int) ∧ j = .int .i64 (b : Int) ∧ a ≤ c ∧ c ≤ b ∧ b ≤ n ∧ Ext w wr) (fun i j _ => (intOf j).toNat - (intOf i).toNat)
  case atStart => exact ⟨0, n, rfl, rfl, Nat.zero_le _, hc, Nat.le_refl _, Keeps.refl _ _⟩
  case round =>
    obtain ⟨a, b, rfl, rfl, ha, hb, hbn, hx⟩ := hrel
    have Hx := Lib.hid hx
    clear hx
    by_cases hab : a < b
    · obtain ⟨m, hm⟩ : ∃ m, m = (a + b) / 2 := ⟨_, rfl⟩
      have hm1 : a ≤ m := by omega
      have hm2 : m < b := by omega
      have Hm := Lib.hid hm
      have hmi : ((a : Int) + (b : Int)) / 2 = (m : Int) := by omega
      have HC := Lib.hid (Hcl.out wr m Hx.out (by omega))
      obtain ⟨q, hq⟩ : ∃ q, p m = q := ⟨_, rfl⟩
      rw [hq] at HC
      have Hq := Lib.hid hq
      clear hm hq
      cases q
      · have Hcm := Lib.hid (show m < c from Nat.lt_of_not_le fun h => by have := Hhi.out m h (by omega); rw [Hq.out] at this; cases this)
        go_wp2_with (go_at_call 101; refine HC.out.mono ?_; rintro _ w2 ⟨rfl, hx2⟩; have Hx2 := Lib.hid (Hx.out.trans hx2); clear hx2)
        go_roundw
        case rel => exact ⟨m + 1, b, by go_num, rfl, Hcm.out, hb, hbn, Hx2.out⟩
        case measure => simp [intOf]; omega
      · have Hcm := Lib.hid (show c ≤ m from Nat.le_of_not_lt fun h => by have := Hlo.out m h; rw [Hq.out] at this; cases this)
        go_wp2_with (go_at_call 101; refine HC.out.mono ?_; rintro _ w2 ⟨rfl, hx2⟩; have Hx2 := Lib.hid (Hx.out.trans hx2); clear hx2)
        go_roundw
        case rel => exact ⟨a, m, rfl, rfl, ha, Hcm.out, by omega, Hx2.out⟩
        case measure => simp [intOf]; omega
    · obtain rfl : a = c := by omega
      obtain rfl : a = b := by omega
      go_wp2_with fail
      go_ret
      exact ⟨rfl, Hx.out⟩
end Go.Proofs.YtpkkkhgmkndpdaaGreatDoor
namespace Go.Proofs.YtpkkkhgmkndpdaaGreatDoor
open Go Go.RowKit Go.Proofs
attribute [local go_sem ↓] Go.wp_at_zero Go.wp_at_succ
/-- A thing behind one of its events. -/
structure St where
  tick : Int
  born : Bool
  name : ByteArray
  maker : ByteArray
  tags : ByteArray
  stock : Int
  price : Int
  bornAt : Int
  listed : Bool
def stL (s : St) : List Value := [.int .i64 s.tick, .bool s.born, .string s.name, .string s.maker, .string s.tags, .int .i64 s.stock, .int .i64 s.price, .int .i64 s.bornAt, .bool s.listed]
def stR : Rep St where
  size := 9
  rep _ _ s xs := xs = stL s
  len h := by subst h; rfl
  one h u hu := by
    subst h
    simp [stL] at hu
    rcases hu with rfl | rfl | rfl | rfl | rfl | rfl | rfl | rfl | rfl <;> rfl
  keep _ h := h
  mono _ h := h
theorem stR_flat : stR.flat := fun _ _ _ _ _ _ h => h
structure Cat where
  any : Bool
  last : Ev
  things : List (ByteArray × List St)
def catC (c : Cat) (m : Nat) : Array Value := #[.bool c.any, .string c.last.src, .int .i64 c.last.num, .int .i64 c.last.tick, .int .i64 c.last.kind, .string c.last.person, .string c.last.item, .int .i64 c.last.value, .string c.last.text, .map (some m)]
abbrev CatAt (w : World) (b : Nat) (fp : List Nat) (c : Cat) : Prop := BoxAt 133 catC (mapOb (strK (P := Tryz.prog) (kt := 9) Tryz.underlying9) (fun v : Value => v) (rowOb stR 164)) Cat.things w b fp c
def rowS (l : List (ByteArray × List St)) (key : ByteArray) : List St := (getM (fun a b : ByteArray => a == b) l key).getD []
/-- How many are not behind a tick. -/
def atN (l : List St) (x : Int) : Nat := (l.takeWhile (fun s => decide (s.tick ≤ x))).length
def RisS (l : List St) : Prop := l.Pairwise (fun a b => a.tick ≤ b.tick)
theorem atN_le (l : List St) (x : Int) : atN l x ≤ l.length := by
  unfold atN
  induction l with
  | nil => simp
  | cons a l ih => rw [List.takeWhile_cons]; split <;> simp; omega
theorem atN_lo (x : Int) : ∀ (l : List St) (i : Nat) (s : St), i < atN l x → l[i]? = some s → s.tick ≤ x
  | [], i, s, h, _ => by simp [atN] at h
  | a :: l, i, s, h, hs => by
    unfold atN at h
    rw [List.takeWhile_cons] at h
    split at h
    · rename_i h9
      cases i with
      | zero => simp at hs; subst hs; simpa using h9
      | succ i => exact atN_lo x l i s (by unfold atN; simpa using h) (by simpa using hs)
    · simp at h
theorem atN_hi (x : Int) : ∀ (l : List St), RisS l → ∀ (i : Nat) (s : St), atN l x ≤ i → l[i]? = some s → x < s.tick
  | [], _, i, s, _, hs => by simp at hs
  | a :: l, hr, i, s, h, hs => by
    unfold RisS at hr
    rw [List.pairwise_cons] at hr
    unfold atN at h
    rw [List.takeWhile_cons] at h
    split at h
    · cases i with
      | zero => simp at h
      | succ i => exact atN_hi x l hr.2 i s (by unfold atN; simpa using h) (by simpa using hs)
    · rename_i h9
      have h8 : x < a.tick := by simpa using h9
      cases i with
      | zero => simp at hs; subst hs; exact h8
      | succ i =>
        have := hr.1 s (List.mem_of_getElem? (by simpa using hs))
        omega
section
variable {ok : Nat → Prop} {w : World} {A : Option Addr} {n : Nat}
theorem Sl.st {l : List St} (h : Sl stR ok w A n l) {k : Nat} (hk : k < n) : ∃ (b o : Nat) (s : St), A = some ⟨b, o, none⟩ ∧ b < w.heap.size ∧ ok b ∧ l[k]? = some s ∧
    w.cell? ⟨b, o + k * 9, none⟩ = some (.int .i64 s.tick) ∧ w.cell? ⟨b, o + k * 9 + 1, none⟩ = some (.bool s.born) ∧ w.cell? ⟨b, o + k * 9 + 2, none⟩ = some (.string s.name) ∧ w.cell? ⟨b, o + k * 9 + 3, none⟩ = some (.string s.maker) ∧
    w.cell? ⟨b, o + k * 9 + 4, none⟩ = some (.string s.tags) ∧ w.cell? ⟨b, o + k * 9 + 5, none⟩ = some (.int .i64 s.stock) ∧ w.cell? ⟨b, o + k * 9 + 6, none⟩ = some (.int .i64 s.price) ∧ w.cell? ⟨b, o + k * 9 + 7, none⟩ = some (.int .i64 s.bornAt) ∧ w.cell? ⟨b, o + k * 9 + 8, none⟩ = some (.bool s.listed) := by
  obtain ⟨b, o, s, xs, rfl, hb, ho, he, rfl, hc⟩ := h.at_ hk
  exact ⟨b, o, s, rfl, hb, ho, he, hc 0 _ rfl, hc 1 _ rfl, hc 2 _ rfl, hc 3 _ rfl, hc 4 _ rfl, hc 5 _ rfl, hc 6 _ rfl, hc 7 _ rfl, hc 8 _ rfl⟩
end
theorem zero_ss (w : World) : (zeroValue 162).run Tryz.prog w = .ok (.slice none 0 0) w := by kernel_rfl
set_option maxRecDepth 100000 in
set_option maxHeartbeats 2000000 in
theorem cat_New (w : World) :
    Calls Tryz.prog 66 #[] w fun r w' => ∃ b fp, r = .returned (.pointer (some ⟨b, 0, none⟩)) ∧ CatAt w' b fp ⟨false, ⟨⟨#[]⟩, 0, 0, 0, ⟨#[]⟩, ⟨#[]⟩, 0, ⟨#[]⟩⟩, []⟩ ∧ Ext w w' ∧ ∀ g ∈ fp, w.heap.size ≤ g := by
  have hmm := @run_makeMap Tryz.prog
  go_enter Tryz.func66, Tryz.ntmps66
  go_wp2_with fail
  go_ret
  exact ⟨w.heap.size + 1, [w.heap.size + 1, w.heap.size], rfl, BoxAt.new (h := w.heap.size) (f := [w.heap.size]) (blk_at _ _ (by simp)) (Ob.ext (O := mapOb (strK (P := Tryz.prog) (kt := 9) Tryz.underlying9) (fun v : Value => v) (rowOb stR 164)) (MapOf.new w) ((Keeps.refl _ _).alloc _)) (by simp), ((Keeps.refl _ _).alloc _).alloc _, by simp⟩
set_option maxRecDepth 100000 in
set_option maxHeartbeats 2000000 in
theorem cat_At1 (l : List St) (A : Option Addr) (n c g8 g5 i : Nat) (x : Int) (s : St) (ok : Nat → Prop) (w : World) (hs : Sl stR ok w A n l) (hi : i < n) (hl : l[i]? = some s) (h8 : w.heap[g8]? = some (.cells #[.slice A n c] 162)) (h5 : w.heap[g5]? = some (.cells #[.int .i64 x] 3)) :
    Calls Tryz.prog 101 #[.int .i64 (i : Int), .pointer (some ⟨g8, 0, none⟩), .pointer (some ⟨g5, 0, none⟩)] w fun r w' => r = .returned (.bool (decide (x < s.tick))) ∧ Ext w w' := by
  obtain ⟨b, o, s', rfl, hb, _, hs', d0, _⟩ := hs.st hi
  obtain rfl : s = s' := Option.some.inj (hl.symm.trans hs')
  have e8 : w.cell? ⟨g8, 0, none⟩ = some (.slice (some ⟨b, o, none⟩) n c) := blk_cell h8 0 rfl
  have e5 : w.cell? ⟨g5, 0, none⟩ = some (.int .i64 x) := blk_cell h5 0 rfl
  have i0 : (0 : Int) ≤ (i : Int) := by omega
  have i1 : (i : Int) < (n : Int) := by omega
  clear hs hs' hl h8 h5
  go_enter Tryz.func101, Tryz.ntmps101
  go_wp2_with fail
  go_quiet (fail)
  go_wp2_with fail
  go_ret
  exact ⟨rfl, (Keeps.refl _ _).drewN _⟩
/-- What the catalog tells of a thing: whether there is one, and what it is. -/
def catAt (c : Cat) (name : ByteArray) (x : Int) : Option St := if atN (rowS c.things name) x = 0 then none else (rowS c.things name)[atN (rowS c.things name) x - 1]?
def itV : Option St → Value
  | none => .agg #[.string ⟨#[]⟩, .string ⟨#[]⟩, .string ⟨#[]⟩, .int .i64 0, .int .i64 0, .int .i64 0, .bool false]
  | some s => .agg #[.string s.name, .string s.maker, .string s.tags, .int .i64 s.stock, .int .i64 s.price, .int .i64 s.bornAt, .bool s.listed]
set_option maxRecDepth 100000 in
set_option maxHeartbeats 4000000 in
theorem cat_At (b : Nat) (fp : List Nat) (c : Cat) (name : ByteArray) (x : Int) (w : World) (h : CatAt w b fp c) (hris : RisS (rowS c.things name)) (hlen : (rowS c.things name).length ≤ 1048576) :
    Calls Tryz.prog 79 #[.pointer (some ⟨b, 0, none⟩), .string name, .int .i64 x] w fun r w' => r = .returned (.tuple #[itV (catAt c name x), .bool (catAt c name x).isSome]) ∧ Ext w w' := by
  obtain ⟨m, f, hb, hr, hfp, hnd⟩ := h
  obtain ⟨v, fs, hrow, _, _, hlk, _⟩ := rows_focus (K := (strK (P := Tryz.prog) (kt := 9) Tryz.underlying9)) hr name
  obtain ⟨l, hl⟩ : ∃ l, l = rowS c.things name := ⟨_, rfl⟩
  have hrow' : RowAt stR 164 w v fs l := by rw [hl]; exact hrow
  rw [← hl] at hris hlen
  obtain ⟨A, cc, rfl⟩ := hrow'.form
  have Hsl := Lib.hid hrow'.sl
  have q9 : w.cell? ⟨b, 9, none⟩ = some (.map (some m)) := blk_cell hb 9 rfl
  have hbl : b < w.heap.size := (Array.getElem?_eq_some_iff.1 hb).1
  have Hlk := Lib.hid (fun (W : World) (hx : Ext w W) => show (Instr.lookup 131 (.map (some m)) (.string name) false).run Tryz.prog W = .ok (.slice A l.length cc) W from hlk Tryz.underlying131 (zero_ss W) (hx.keeps _))
  obtain ⟨k, hk⟩ : ∃ k, k = atN l x := ⟨_, rfl⟩
  have Hc := Lib.hid (show catAt c name x = if k = 0 then none else l[k - 1]? by unfold catAt; rw [← hl, ← hk])
  have hkl : k ≤ l.length := by rw [hk]; exact atN_le l x
  have Hlo := Lib.hid (show ∀ i, i < k → ∀ s, l[i]? = some s → s.tick ≤ x from fun i hi s hs => atN_lo x l i s (by rw [← hk]; exact hi) hs)
  have Hhi := Lib.hid (show ∀ i, k ≤ i → ∀ s, l[i]? = some s → x < s.tick from fun i hi s hs => atN_hi x l hris i s (by rw [← hk]; exact hi) hs)
  clear hb hr hfp hnd hrow hl hrow' hris hlk hk
  have L1 := Hlk.out ((w.alloc (.cells #[.int .i64 x] 3)).alloc (.cells #[.string ⟨#[]⟩, .string ⟨#[]⟩, .string ⟨#[]⟩, .int .i64 0, .int .i64 0, .int .i64 0, .bool false] 117)) (((Keeps.refl _ _).alloc _).alloc _)
  go_enter Tryz.func79, Tryz.ntmps79
  go_upto_region 2 with fail
  clear L1 q9 hbl
  obtain ⟨g6, hg6⟩ : ∃ g6, g6 = w.heap.size + 1 := ⟨_, rfl⟩
  obtain ⟨g8, hg8⟩ : ∃ g8, g8 = w.heap.size + 1 + 1 := ⟨_, rfl⟩
  obtain ⟨g5, hg5⟩ : ∃ g5, g5 = w.heap.size := ⟨_, rfl⟩
  obtain ⟨X, hX⟩ : ∃ X, X = (((w.alloc (.cells #[.int .i64 x] 3)).alloc (.cells #[.string ⟨#[]⟩, .string ⟨#[]⟩, .string ⟨#[]⟩, .int .i64 0, .int .i64 0, .int .i64 0, .bool false] 117)).alloc (.cells #[.slice A l.length cc] 162)) := ⟨_, rfl⟩
  rw [← hX, ← hg8, ← hg6, ← hg5]
  have HxX := Lib.hid (show Ext w X by rw [hX]; exact (((Keeps.refl _ _).alloc _).alloc _).alloc _)
  have h5 : X.heap[g5]? = some (.cells #[.int .i64 x] 3) := by rw [hX, hg5]; exact blk_old (blk_old (blk_new _ _) _) _
  have h6 : X.heap[g6]? = some (.cells #[.string ⟨#[]⟩, .string ⟨#[]⟩, .string ⟨#[]⟩, .int .i64 0, .int .i64 0, .int .i64 0, .bool false] 117) := by rw [hX, hg6]; exact blk_old (blk_at _ _ (by simp)) _
  have h8 : X.heap[g8]? = some (.cells #[.slice A l.length cc] 162) := by rw [hX, hg8]; exact blk_at _ _ (by simp)
  have e8 : X.cell? ⟨g8, 0, none⟩ = some (.slice A l.length cc) := blk_cell h8 0 rfl
  have hgw6 : w.heap.size ≤ g6 := by omega
  have HS := Lib.hid (sort_Search l.length k g8 g5 (fun i => match l[i]? with | some s => decide (x < s.tick) | none => true) X (by omega) hkl
    (fun i hi => by
      have hil : i < l.length := by omega
      have := Hlo.out i hi l[i] (List.getElem?_eq_getElem hil)
      simp only [List.getElem?_eq_getElem hil]; simp; omega)
    (fun i hi hil => by
      have := Hhi.out i hi l[i] (List.getElem?_eq_getElem hil)
      simp only [List.getElem?_eq_getElem hil]; simp; omega)
    (fun W i hW hil => by
      have h9 := cat_At1 l A l.length cc g8 g5 i x l[i] _ W ((Hsl.out.ext HxX.out).ext hW) hil (List.getElem?_eq_getElem hil) (hW.blk h8) (hW.blk h5)
      simp only [List.getElem?_eq_getElem hil]
      exact h9))
  have H6 := Lib.hid h6
  have H8 := Lib.hid h8
  clear hX h5 h6 h8 hg5 hg6 hg8
  go_upto_region 3 with (go_at_call 100; refine HS.out.mono ?_; rintro _ w2 ⟨rfl, hx2⟩; have Hx2 := Lib.hid hx2; have h62 := hx2.blk H6.out; have h82 := hx2.blk H8.out; have e82 : w2.cell? ⟨g8, 0, none⟩ = some (.slice A l.length cc) := blk_cell h82 0 rfl; have f6 := blk_free h62; have H62 := Lib.hid h62; have hl6 : g6 < w2.heap.size := (Array.getElem?_eq_some_iff.1 h62).1; clear hx2 h82 h62)
  have e60 : w2.cell? ⟨g6, 0, none⟩ = some (.string ⟨#[]⟩) := blk_cell H62.out 0 rfl
  have e61 : w2.cell? ⟨g6, 1, none⟩ = some (.string ⟨#[]⟩) := blk_cell H62.out 1 rfl
  have e62 : w2.cell? ⟨g6, 2, none⟩ = some (.string ⟨#[]⟩) := blk_cell H62.out 2 rfl
  have e63 : w2.cell? ⟨g6, 3, none⟩ = some (.int .i64 0) := blk_cell H62.out 3 rfl
  have e64 : w2.cell? ⟨g6, 4, none⟩ = some (.int .i64 0) := blk_cell H62.out 4 rfl
  have e65 : w2.cell? ⟨g6, 5, none⟩ = some (.int .i64 0) := blk_cell H62.out 5 rfl
  have e66 : w2.cell? ⟨g6, 6, none⟩ = some (.bool false) := blk_cell H62.out 6 rfl
  by_cases hk0 : k = 0
  · subst hk0
    have Hn := Lib.hid (show catAt c name x = none by rw [Hc.out, if_pos rfl])
    have Hx9 := Lib.hid (HxX.out.trans Hx2.out)
    clear e82
    go_wp2_with fail
    refine bodyPost_ret (v := .tuple #[.agg #[.string ⟨#[]⟩, .string ⟨#[]⟩, .string ⟨#[]⟩, .int .i64 0, .int .i64 0, .int .i64 0, .bool false], .bool false]) (by simp [results, Tryz.results79, go_sem, *]) rfl ⟨by rw [Hn.out]; rfl, ?_⟩
    repeat (first | with_reducible exact Hx9.out | with_reducible exact Keeps.refl _ _ | with_reducible refine Keeps.drew ?_ | with_reducible refine Keeps.drewN ?_ _ | with_reducible refine Keeps.alloc ?_ _ | with_reducible refine Keeps.setCell ?_ (by first | (intro h; simp at h; done) | (intro _; simp; done) | (intro _; simp; omega) | (intro h; simp at h; omega)) _)
  · have hkl2 : k - 1 < l.length := by omega
    obtain ⟨b2, o2, s, rfl, hb2, _, hs2, d0, d1, d2, d3, d4, d5, d6, d7, d8⟩ := ((Hsl.out.ext HxX.out).ext Hx2.out).st hkl2
    have Hn := Lib.hid (show catAt c name x = some s by rw [Hc.out, if_neg hk0]; exact hs2)
    have Hx9 := Lib.hid (HxX.out.trans Hx2.out)
    have hk1 : decide ((k : Int) = 0) = false := by simp; omega
    obtain ⟨j, hj⟩ : ∃ j, j = k - 1 := ⟨_, rfl⟩
    rw [← hj] at d0 d1 d2 d3 d4 d5 d6 d7 d8 hkl2
    have hkj : (k : Int) - 1 = (j : Int) := by omega
    have j0 : (0 : Int) ≤ (j : Int) := by omega
    have j1 : (j : Int) < (l.length : Int) := by omega
    clear hs2 hj
    go_wp2_with fail
    refine bodyPost_ret (v := .tuple #[.agg #[.string s.name, .string s.maker, .string s.tags, .int .i64 s.stock, .int .i64 s.price, .int .i64 s.bornAt, .bool s.listed], .bool true]) (by simp [results, Tryz.results79, go_sem, *]) rfl ⟨by rw [Hn.out]; rfl, ?_⟩
    repeat (first | with_reducible exact Hx9.out | with_reducible exact Keeps.refl _ _ | with_reducible refine Keeps.drew ?_ | with_reducible refine Keeps.drewN ?_ _ | with_reducible refine Keeps.alloc ?_ _ | with_reducible refine Keeps.setCell ?_ (by first | (intro h; simp at h; done) | (intro _; simp; done) | (intro _; simp; omega) | (intro h; simp at h; omega)) _)
end Go.Proofs.YtpkkkhgmkndpdaaGreatDoor
namespace Go.Proofs.YtpkkkhgmkndpdaaGreatDoor
open Go Go.RowKit Go.Proofs
attribute [local go_sem ↓] Go.wp_at_zero Go.wp_at_succ
/-- A thing as it was behind its last event. -/
def stLast (l : List St) (name : ByteArray) : St := l.getLast?.getD ⟨0, false, name, ⟨#[]⟩, ⟨#[]⟩, 0, 0, 0, false⟩
def stNext (s : St) (e : Ev) : St :=
  if e.kind = 11 then ⟨e.tick, true, s.name, makerB e.text, restB e.text, s.stock, e.value, if s.born then s.bornAt else e.tick, true⟩
  else if e.kind = 12 then ⟨e.tick, s.born, s.name, s.maker, s.tags, e.value, s.price, s.bornAt, s.listed⟩
  else ⟨e.tick, s.born, s.name, s.maker, s.tags, s.stock, s.price, s.bornAt, false⟩
def catPut (c : Cat) (e : Ev) : Cat := ⟨true, e, putM (fun a b : ByteArray => a == b) c.things e.item (rowS c.things e.item ++ [stNext (stLast (rowS c.things e.item) e.item) e])⟩
theorem info_state : (Tryz.prog.info? 164).map (fun i => (i.zero, i.size, i.bytes)) = some (some (.agg #[.int .i64 0, .bool false, .string ⟨#[]⟩, .string ⟨#[]⟩, .string ⟨#[]⟩, .int .i64 0, .int .i64 0, .int .i64 0, .bool false]), 9, 96) := by kernel_rfl
theorem info_of2 {t : TypeId} {z : Option Value} {a b : Nat} (h : (Tryz.prog.info? t).map (fun i => (i.zero, i.size, i.bytes)) = some (z, a, b)) : ∃ i, Tryz.prog.info? t = some i ∧ i.zero = z ∧ i.size = a ∧ i.bytes = b := by
  cases hi : Tryz.prog.info? t with
  | none => rw [hi] at h; cases h
  | some i => rw [hi] at h; simp at h; exact ⟨i, rfl, h.1, h.2.1, h.2.2⟩
theorem mx_keep {w w' : World} {b : Nat} {v : Bool} (h : Mx w) (hk : Keeps (fun g => g ≠ b) w w') (hb : w.cell? ⟨b, 0, none⟩ = some (.bool v)) : Mx w' := by
  obtain ⟨m, hm⟩ := h
  refine ⟨m, ?_⟩
  rw [← hm]
  refine hk.cell (p := ⟨_, 0, none⟩) (cell_lt hm) fun e => ?_
  have e2 := e
  subst e2
  rw [hm] at hb; cases hb
section
variable {s : St} {e : Ev}
theorem next11 (h : e.kind = 11) : stNext s e = ⟨e.tick, true, s.name, makerB e.text, restB e.text, s.stock, e.value, if s.born then s.bornAt else e.tick, true⟩ := by unfold stNext; rw [if_pos h]
theorem next12 (h : e.kind = 12) : stNext s e = ⟨e.tick, s.born, s.name, s.maker, s.tags, e.value, s.price, s.bornAt, s.listed⟩ := by unfold stNext; rw [if_neg (by omega), if_pos h]
theorem next13 (h : e.kind = 13) : stNext s e = ⟨e.tick, s.born, s.name, s.maker, s.tags, s.stock, s.price, s.bornAt, false⟩ := by unfold stNext; rw [if_neg (by omega), if_neg (by omega)]
end
theorem blk_drew {w : World} {b : Nat} {o : Option Obj} (h : w.heap[b]? = o) : w.drew.heap[b]? = o := h
theorem cat_last {Y : World} {b m : Nat} {c : Cat} {e : Ev} {t : TypeId} (h : Y.heap[b]? = some (.cells (catC c m) t)) :
    (((((((((Y.setCell ⟨b, 0, none⟩ (.bool true)).setCell ⟨b, 1, none⟩ (.string e.src)).setCell ⟨b, 2, none⟩ (.int .i64 e.num)).setCell ⟨b, 3, none⟩ (.int .i64 e.tick)).setCell ⟨b, 4, none⟩ (.int .i64 e.kind)).setCell ⟨b, 5, none⟩ (.string e.person)).setCell ⟨b, 6, none⟩ (.string e.item)).setCell ⟨b, 7, none⟩ (.int .i64 e.value)).setCell ⟨b, 8, none⟩ (.string e.text)).drew.heap[b]? = some (.cells (catC ⟨true, e, c.things⟩ m) t) := by
  have h9 := blk_set (blk_set (blk_set (blk_set (blk_set (blk_set (blk_set (blk_set (blk_set h 0 (.bool true)) 1 (.string e.src)) 2 (.int .i64 e.num)) 3 (.int .i64 e.tick)) 4 (.int .i64 e.kind)) 5 (.string e.person)) 6 (.string e.item)) 7 (.int .i64 e.value)) 8 (.string e.text)
  simp only [catC, List.setIfInBounds_toArray, List.set_cons_zero, List.set_cons_succ] at h9
  exact blk_drew h9
theorem st_store {V : World} {g : Nat} {s0 s : St} {t : TypeId} (h : V.heap[g]? = some (.cells (stL s0).toArray t)) :
    (((((((((V.setCell ⟨g, 0, none⟩ (.int .i64 s.tick)).setCell ⟨g, 1, none⟩ (.bool s.born)).setCell ⟨g, 2, none⟩ (.string s.name)).setCell ⟨g, 3, none⟩ (.string s.maker)).setCell ⟨g, 4, none⟩ (.string s.tags)).setCell ⟨g, 5, none⟩ (.int .i64 s.stock)).setCell ⟨g, 6, none⟩ (.int .i64 s.price)).setCell ⟨g, 7, none⟩ (.int .i64 s.bornAt)).setCell ⟨g, 8, none⟩ (.bool s.listed)).heap[g]? = some (.cells (stL s).toArray t) := by
  have h9 := blk_set (blk_set (blk_set (blk_set (blk_set (blk_set (blk_set (blk_set (blk_set h 0 (.int .i64 s.tick)) 1 (.bool s.born)) 2 (.string s.name)) 3 (.string s.maker)) 4 (.string s.tags)) 5 (.int .i64 s.stock)) 6 (.int .i64 s.price)) 7 (.int .i64 s.bornAt)) 8 (.bool s.listed)
  simp only [stL, List.setIfInBounds_toArray, List.set_cons_zero, List.set_cons_succ] at h9
  exact h9
set_option maxRecDepth 100000 in
set_option maxHeartbeats 2000000 in
theorem cat_Apply (b : Nat) (fp : List Nat) (c : Cat) (e : Ev) (w : World) (h : CatAt w b fp c) (hm : Mx w) (hsm : EvSm e) (hmay : mayE e = true) (hk : e.kind = 11 ∨ e.kind = 12 ∨ e.kind = 13) (hord : c.any = false ∨ cmpE e c.last = 1) (hlen : (rowS c.things e.item).length ≤ 1048576) :
    Calls Tryz.prog 78 #[.pointer (some ⟨b, 0, none⟩), .agg #[.string e.src, .int .i64 e.num, .int .i64 e.tick, .int .i64 e.kind, .string e.person, .string e.item, .int .i64 e.value, .string e.text]] w fun r w' => r = .returned (.bool true) ∧ ∃ fp', CatAt w' b fp' (catPut c e) ∧ Turned fp fp' w w' := by
  have Hc := Lib.hid h
  have Hfl := Lib.hid ((boxOb 133 catC _ Cat.things).lt h)
  have HT := Lib.hid hsm.text
  have HmX := Lib.hid hm
  have Hord := Lib.hid hord
  have hbfp : b ∈ fp := (BoxAt.focus h).choose_spec.choose_spec.2.2.2.2.1
  have hbw : b < w.heap.size := Hfl.out b hbfp
  obtain ⟨kd, hkd⟩ : ∃ k, k = e.kind := ⟨_, rfl⟩
  obtain ⟨g3, hg3⟩ : ∃ g, g = w.heap.size := ⟨_, rfl⟩
  obtain ⟨W0, hW0⟩ : ∃ W, W = w.alloc (.cells #[.string e.src, .int .i64 e.num, .int .i64 e.tick, .int .i64 e.kind, .string e.person, .string e.item, .int .i64 e.value, .string e.text] 30) := ⟨_, rfl⟩
  have hgb0 : W0.heap[g3]? = some (.cells #[.string e.src, .int .i64 e.num, .int .i64 e.tick, .int .i64 e.kind, .string e.person, .string e.item, .int .i64 e.value, .string e.text] 30) := by rw [hW0, hg3]; exact blk_new _ _
  have Hx0 := Lib.hid (show Ext w W0 by rw [hW0]; exact (Keeps.refl _ _).alloc _)
  have Hg3 := Lib.hid (show w.heap.size ≤ g3 by omega)
  have Hgb0 := Lib.hid hgb0
  have q3 : W0.cell? ⟨g3, 3, none⟩ = some (.int .i64 kd) := by rw [hkd]; exact blk_cell hgb0 3 rfl
  have HkdE := Lib.hid hkd
  have HM := Lib.hid (show Calls Tryz.prog 22 #[.agg #[.string e.src, .int .i64 e.num, .int .i64 e.tick, .int .i64 kd, .string e.person, .string e.item, .int .i64 e.value, .string e.text]] W0 (fun r w' => r = .returned (.bool true) ∧ Ext W0 w') by rw [hkd]; have h9 := ev_May e W0 hsm (hm.ext Hx0.out); rwa [hmay] at h9)
  rw [← hkd] at hk
  clear h hm hsm hmay hord hgb0 hkd
  have q0 : W0.cell? ⟨g3, 0, none⟩ = some (.string e.src) := blk_cell Hgb0.out 0 rfl
  have q1 : W0.cell? ⟨g3, 1, none⟩ = some (.int .i64 e.num) := blk_cell Hgb0.out 1 rfl
  have q2 : W0.cell? ⟨g3, 2, none⟩ = some (.int .i64 e.tick) := blk_cell Hgb0.out 2 rfl
  have q4 : W0.cell? ⟨g3, 4, none⟩ = some (.string e.person) := blk_cell Hgb0.out 4 rfl
  have q5 : W0.cell? ⟨g3, 5, none⟩ = some (.string e.item) := blk_cell Hgb0.out 5 rfl
  have q6 : W0.cell? ⟨g3, 6, none⟩ = some (.int .i64 e.value) := blk_cell Hgb0.out 6 rfl
  have q7 : W0.cell? ⟨g3, 7, none⟩ = some (.string e.text) := blk_cell Hgb0.out 7 rfl
  go_enter Tryz.func78, Tryz.ntmps78
  go_upto_region 1 with fail
  rw [← hW0, ← hg3]
  clear hW0 hg3
  go_cut [24] (fun s24 wx => s24 = .bool false ∧ Ext W0 wx)
  case first =>
    rcases hk with rfl | rfl | rfl
    all_goals
      go_wp2_with (go_at_call 22; refine HM.out.mono ?_; rintro _ w2 ⟨rfl, hx2⟩; have Hx2 := Lib.hid hx2; have p3 := blk_cell (hx2.blk Hgb0.out) 3 rfl; rw [← HkdE.out] at p3; clear hx2)
      go_meet
      exact ⟨rfl, Hx2.out⟩
  case rest =>
    obtain ⟨h24, hxX⟩ := hcut
    subst h24
    obtain ⟨X, hX⟩ : ∃ X, X = wc := ⟨_, rfl⟩
    rw [← hX] at hxX ⊢
    clear hX q0 q1 q2 q3 q4 q5 q6 q7
    have h3 := hxX.blk Hgb0.out
    have H3 := Lib.hid h3
    have HwX := Lib.hid (Hx0.out.trans hxX)
    obtain ⟨m, f, hb, hr, hff, hbf, _, hbX, hturn, hturn2⟩ := BoxAt.focus (Hc.out.ext HwX.out)
    have HbX := Lib.hid hb
    have HrX := Lib.hid hr
    have Hturn2 := Lib.hid hturn2
    have HC := Lib.hid (fun (W : World) => ev_Compare e c.last W)
    have g3X : g3 < X.heap.size := (Array.getElem?_eq_some_iff.1 h3).1
    have q0 : X.cell? ⟨g3, 0, none⟩ = some (.string e.src) := blk_cell h3 0 rfl
    have q1 : X.cell? ⟨g3, 1, none⟩ = some (.int .i64 e.num) := blk_cell h3 1 rfl
    have q2 : X.cell? ⟨g3, 2, none⟩ = some (.int .i64 e.tick) := blk_cell h3 2 rfl
    have q3 : X.cell? ⟨g3, 3, none⟩ = some (.int .i64 e.kind) := blk_cell h3 3 rfl
    have q4 : X.cell? ⟨g3, 4, none⟩ = some (.string e.person) := blk_cell h3 4 rfl
    have q5 : X.cell? ⟨g3, 5, none⟩ = some (.string e.item) := blk_cell h3 5 rfl
    have q6 : X.cell? ⟨g3, 6, none⟩ = some (.int .i64 e.value) := blk_cell h3 6 rfl
    have q7 : X.cell? ⟨g3, 7, none⟩ = some (.string e.text) := blk_cell h3 7 rfl
    have b0 : X.cell? ⟨b, 0, none⟩ = some (.bool c.any) := blk_cell hb 0 rfl
    have b1 : X.cell? ⟨b, 1, none⟩ = some (.string c.last.src) := blk_cell hb 1 rfl
    have b2 : X.cell? ⟨b, 2, none⟩ = some (.int .i64 c.last.num) := blk_cell hb 2 rfl
    have b3 : X.cell? ⟨b, 3, none⟩ = some (.int .i64 c.last.tick) := blk_cell hb 3 rfl
    have b4 : X.cell? ⟨b, 4, none⟩ = some (.int .i64 c.last.kind) := blk_cell hb 4 rfl
    have b5 : X.cell? ⟨b, 5, none⟩ = some (.string c.last.person) := blk_cell hb 5 rfl
    have b6 : X.cell? ⟨b, 6, none⟩ = some (.string c.last.item) := blk_cell hb 6 rfl
    have b7 : X.cell? ⟨b, 7, none⟩ = some (.int .i64 c.last.value) := blk_cell hb 7 rfl
    have b8 : X.cell? ⟨b, 8, none⟩ = some (.string c.last.text) := blk_cell hb 8 rfl
    clear h3 hb hr hturn hturn2 hxX
    go_upto_region 3 with fail
    go_cut [37] (fun s37 wx => s37 = .bool false ∧ Ext X wx)
    case first =>
      cases ha : c.any
      · rw [ha] at b0
        refine wp_region_ext X (Keeps.refl _ _) (by kernel_rfl) (by kernel_rfl) ?_
        have hcell := fun (y : XW X) => y.cell
        repeat (go_big_quiet_step (fail))
        refine wpQuiet_nil ?_
        rintro _ ⟨y, rfl⟩
        go_wp2_with fail
        go_meet
        exact ⟨rfl, y.h⟩
      · rw [ha] at b0
        have hc1 : cmpE e c.last = 1 := by
          rcases Hord.out with h9 | h9
          · rw [ha] at h9; cases h9
          · exact h9
        have HC1 := Lib.hid (fun (W : World) => show Calls Tryz.prog 46 #[.agg #[.string e.src, .int .i64 e.num, .int .i64 e.tick, .int .i64 e.kind, .string e.person, .string e.item, .int .i64 e.value, .string e.text], .agg #[.string c.last.src, .int .i64 c.last.num, .int .i64 c.last.tick, .int .i64 c.last.kind, .string c.last.person, .string c.last.item, .int .i64 c.last.value, .string c.last.text]] W (fun r w' => r = .returned (.int .i64 1) ∧ Ext W w') by have h9 := HC.out W; rwa [hc1] at h9)
        clear hc1
        refine wp_region_ext X (Keeps.refl _ _) (by kernel_rfl) (by kernel_rfl) ?_
        have hcell := fun (y : XW X) => y.cell
        repeat (go_big_quiet_step ((go_at_call 46; with_reducible exact ext_calls (HC1.out _))))
        refine wpQuiet_nil ?_
        rintro _ ⟨y, rfl⟩
        go_wp2_with fail
        go_meet
        exact ⟨rfl, y.h⟩
    case rest =>
      obtain ⟨h37, hxY⟩ := hcut
      subst h37
      obtain ⟨Y, hY⟩ : ∃ Y, Y = wc := ⟨_, rfl⟩
      rw [← hY] at hxY ⊢
      clear hY q0 q1 q2 q3 q4 q5 q6 q7 b0 b1 b2 b3 b4 b5 b6 b7 b8
      have H3Y := Lib.hid (hxY.blk H3.out)
      have HbY := Lib.hid (hxY.blk HbX.out)
      have hbg : g3 ≠ b := by have := Hg3.out; omega
      have HwY := Lib.hid (HwX.out.trans hxY)
      have Hc3 := Lib.hid (fun (w' : World) (hx : Keeps (fun g => g ≠ b) Y w') => show w'.cell? ⟨g3, 0, none⟩ = some (.string e.src) ∧ w'.cell? ⟨g3, 1, none⟩ = some (.int .i64 e.num) ∧ w'.cell? ⟨g3, 2, none⟩ = some (.int .i64 e.tick) ∧ w'.cell? ⟨g3, 3, none⟩ = some (.int .i64 e.kind) ∧ w'.cell? ⟨g3, 4, none⟩ = some (.string e.person) ∧ w'.cell? ⟨g3, 5, none⟩ = some (.string e.item) ∧ w'.cell? ⟨g3, 6, none⟩ = some (.int .i64 e.value) ∧ w'.cell? ⟨g3, 7, none⟩ = some (.string e.text) from ⟨blk_cell (hx.blk H3Y.out hbg) 0 rfl, blk_cell (hx.blk H3Y.out hbg) 1 rfl, blk_cell (hx.blk H3Y.out hbg) 2 rfl, blk_cell (hx.blk H3Y.out hbg) 3 rfl, blk_cell (hx.blk H3Y.out hbg) 4 rfl, blk_cell (hx.blk H3Y.out hbg) 5 rfl, blk_cell (hx.blk H3Y.out hbg) 6 rfl, blk_cell (hx.blk H3Y.out hbg) 7 rfl⟩)
      have hbfree := blk_free HbY.out
      have hbY : b < Y.heap.size := (Array.getElem?_eq_some_iff.1 HbY.out).1
      have b0 : Y.cell? ⟨b, 0, none⟩ = some (.bool c.any) := blk_cell HbY.out 0 rfl
      have b1 : Y.cell? ⟨b, 1, none⟩ = some (.string c.last.src) := blk_cell HbY.out 1 rfl
      have b2 : Y.cell? ⟨b, 2, none⟩ = some (.int .i64 c.last.num) := blk_cell HbY.out 2 rfl
      have b3 : Y.cell? ⟨b, 3, none⟩ = some (.int .i64 c.last.tick) := blk_cell HbY.out 3 rfl
      have b4 : Y.cell? ⟨b, 4, none⟩ = some (.int .i64 c.last.kind) := blk_cell HbY.out 4 rfl
      have b5 : Y.cell? ⟨b, 5, none⟩ = some (.string c.last.person) := blk_cell HbY.out 5 rfl
      have b6 : Y.cell? ⟨b, 6, none⟩ = some (.string c.last.item) := blk_cell HbY.out 6 rfl
      have b7 : Y.cell? ⟨b, 7, none⟩ = some (.int .i64 c.last.value) := blk_cell HbY.out 7 rfl
      have b8 : Y.cell? ⟨b, 8, none⟩ = some (.string c.last.text) := blk_cell HbY.out 8 rfl
      go_upto_region 5 with fail
      refine wp_region_held_drew (S := fun w' => w'.cell? ⟨g3, 0, none⟩ = some (.string e.src) ∧ w'.cell? ⟨g3, 1, none⟩ = some (.int .i64 e.num) ∧ w'.cell? ⟨g3, 2, none⟩ = some (.int .i64 e.tick) ∧ w'.cell? ⟨g3, 3, none⟩ = some (.int .i64 e.kind) ∧ w'.cell? ⟨g3, 4, none⟩ = some (.string e.person) ∧ w'.cell? ⟨g3, 5, none⟩ = some (.string e.item) ∧ w'.cell? ⟨g3, 6, none⟩ = some (.int .i64 e.value) ∧ w'.cell? ⟨g3, 7, none⟩ = some (.string e.text)) (by kernel_rfl) (by exact Hc3.out Y.drew ((Keeps.refl _ _).drew)) (fun hHeld => ?_)
      change wpAnyH _ _ _ _ _ _ #[false, false, false, false, false, false, false, false, false] _ _
      refine wpAnyH_take (i := 0) (oi := { dst := some 38, op := Go.Op.move (Go.Operand.tmp 0), type := 54, pos := "catalog.go:41", after := #[], guard := none }) (v := ?_) rfl (by kernel_rfl) (by kernel_rfl) (by kernel_rfl) (fun _ _ _ h => h) (Or.inl ⟨by rfl, ?_⟩) hHeld ?_
      rotate_left
      · intro w hSw
        (try dsimp only at hSw)
        go_simp
        all_goals (with_reducible rfl)
      try simp only [Act.put, List.setIfInBounds_toArray, List.set_cons_zero, List.set_cons_succ]
      refine wpAnyH_take (i := 1) (oi := { dst := some 39, op := Go.Op.move (Go.Operand.tmp 0), type := 54, pos := "catalog.go:41", after := #[{ on := 5, ground := Go.Ground.gcOnly Go.Departure.lateStores }], guard := none }) (v := ?_) rfl (by kernel_rfl) (by kernel_rfl) (by kernel_rfl) (fun _ _ _ h => h) (Or.inl ⟨by rfl, ?_⟩) hHeld ?_
      rotate_left
      · intro w hSw
        (try dsimp only at hSw)
        go_simp
        all_goals (with_reducible rfl)
      try simp only [Act.put, List.setIfInBounds_toArray, List.set_cons_zero, List.set_cons_succ]
      refine wpAnyH_take (i := 2) (oi := { dst := some 40, op := Go.Op.load 30 (Go.Operand.tmp 3), type := 30, pos := "catalog.go:41", after := #[{ on := 5, ground := Go.Ground.gcOnly Go.Departure.lateStores }], guard := none }) (v := ?_) rfl (by kernel_rfl) (by kernel_rfl) (by kernel_rfl) (fun _ _ _ h => h) (Or.inl ⟨by rfl, ?_⟩) hHeld ?_
      rotate_left
      · intro w hSw
        (try dsimp only at hSw)
        go_simp
        all_goals (with_reducible rfl)
      try simp only [Act.put, List.setIfInBounds_toArray, List.set_cons_zero, List.set_cons_succ]
      refine wpAnyH_take (i := 3) (oi := { dst := some 41, op := Go.Op.nilCheck (Go.Operand.tmp 38), type := 0, pos := "catalog.go:41", after := #[{ on := 0, ground := Go.Ground.data }, { on := 0, ground := Go.Ground.phase }, { on := 1, ground := Go.Ground.textOnly Go.Departure.lateStores }, { on := 2, ground := Go.Ground.textOnly Go.Departure.lateStores }], guard := none }) (v := ?_) rfl (by kernel_rfl) (by kernel_rfl) (by kernel_rfl) (fun _ _ _ h => h) (Or.inl ⟨by rfl, ?_⟩) hHeld ?_
      rotate_left
      · intro w hSw
        (try dsimp only at hSw)
        go_simp
        all_goals (with_reducible rfl)
      try simp only [Act.put, List.setIfInBounds_toArray, List.set_cons_zero, List.set_cons_succ]
      refine wpAnyH_take (i := 4) (oi := { dst := some 42, op := Go.Op.fieldAddr 133 (Go.Operand.tmp 41) 0, type := 0, pos := "catalog.go:41", after := #[{ on := 3, ground := Go.Ground.data }, { on := 0, ground := Go.Ground.phase }, { on := 1, ground := Go.Ground.textOnly Go.Departure.lateStores }, { on := 2, ground := Go.Ground.textOnly Go.Departure.lateStores }], guard := none }) (v := ?_) rfl (by kernel_rfl) (by kernel_rfl) (by kernel_rfl) (fun _ _ _ h => h) (Or.inl ⟨by rfl, ?_⟩) hHeld ?_
      rotate_left
      · intro w hSw
        (try dsimp only at hSw)
        go_simp
        all_goals (with_reducible rfl)
      try simp only [Act.put, List.setIfInBounds_toArray, List.set_cons_zero, List.set_cons_succ]
      refine wpAnyH_ready (rs := [5]) (by kernel_rfl) (by simp) ?_
      refine (AllReadyH.cons (o := { dst := none, op := Go.Op.store 4 (Go.Operand.tmp 42) (Go.Operand.const (Go.Value.bool true)), type := 0, pos := "catalog.go:41", after := #[{ on := 4, ground := Go.Ground.data }, { on := 0, ground := Go.Ground.phase }, { on := 1, ground := Go.Ground.textOnly Go.Departure.lateStores }, { on := 2, ground := Go.Ground.textOnly Go.Departure.lateStores }], guard := none }) rfl (fun K hK => ?_) AllReadyH.nil)
      go_simp
      refine hK.out _ _ (by exact Hc3.out _ (by repeat (first | with_reducible exact Keeps.refl _ _ | with_reducible exact Keeps.refl _ _ | with_reducible refine Keeps.drew ?_ | with_reducible refine Keeps.drewN ?_ _ | with_reducible refine Keeps.alloc ?_ _ | with_reducible refine Keeps.setCell ?_ (by first | (intro h; simp at h; done) | (intro _; simp; done) | (intro _; simp; omega) | (intro h; simp at h; omega)) _))) (fun hHeld => ?_)
      clear hK K
      try simp only [List.setIfInBounds_toArray, List.set_cons_zero, List.set_cons_succ]
      refine wpAnyH_take (i := 6) (oi := { dst := some 43, op := Go.Op.nilCheck (Go.Operand.tmp 39), type := 0, pos := "catalog.go:41", after := #[{ on := 1, ground := Go.Ground.data }, { on := 0, ground := Go.Ground.phase }, { on := 1, ground := Go.Ground.phase }, { on := 2, ground := Go.Ground.phase }, { on := 3, ground := Go.Ground.phase }, { on := 4, ground := Go.Ground.phase }, { on := 5, ground := Go.Ground.phase }], guard := none }) (v := ?_) rfl (by kernel_rfl) (by kernel_rfl) (by kernel_rfl) (fun _ _ _ h => h) (Or.inl ⟨by rfl, ?_⟩) hHeld ?_
      rotate_left
      · intro w hSw
        (try dsimp only at hSw)
        go_simp
        all_goals (with_reducible rfl)
      try simp only [Act.put, List.setIfInBounds_toArray, List.set_cons_zero, List.set_cons_succ]
      refine wpAnyH_take (i := 7) (oi := { dst := some 44, op := Go.Op.fieldAddr 133 (Go.Operand.tmp 43) 1, type := 0, pos := "catalog.go:41", after := #[{ on := 6, ground := Go.Ground.data }, { on := 0, ground := Go.Ground.phase }, { on := 1, ground := Go.Ground.phase }, { on := 2, ground := Go.Ground.phase }, { on := 3, ground := Go.Ground.phase }, { on := 4, ground := Go.Ground.phase }, { on := 5, ground := Go.Ground.phase }], guard := none }) (v := ?_) rfl (by kernel_rfl) (by kernel_rfl) (by kernel_rfl) (fun _ _ _ h => h) (Or.inl ⟨by rfl, ?_⟩) hHeld ?_
      rotate_left
      · intro w hSw
        (try dsimp only at hSw)
        go_simp
        all_goals (with_reducible rfl)
      try simp only [Act.put, List.setIfInBounds_toArray, List.set_cons_zero, List.set_cons_succ]
      refine wpAnyH_ready (rs := [8]) (by kernel_rfl) (by simp) ?_
      refine (AllReadyH.cons (o := { dst := none, op := Go.Op.store 30 (Go.Operand.tmp 44) (Go.Operand.tmp 40), type := 0, pos := "catalog.go:41", after := #[{ on := 7, ground := Go.Ground.data }, { on := 2, ground := Go.Ground.data }, { on := 5, ground := Go.Ground.chain }, { on := 0, ground := Go.Ground.phase }, { on := 1, ground := Go.Ground.phase }, { on := 2, ground := Go.Ground.phase }, { on := 3, ground := Go.Ground.phase }, { on := 4, ground := Go.Ground.phase }, { on := 5, ground := Go.Ground.phase }], guard := none }) rfl (fun K hK => ?_) AllReadyH.nil)
      go_simp
      refine hK.out _ _ (by exact Hc3.out _ (by repeat (first | with_reducible exact Keeps.refl _ _ | with_reducible exact Keeps.refl _ _ | with_reducible refine Keeps.drew ?_ | with_reducible refine Keeps.drewN ?_ _ | with_reducible refine Keeps.alloc ?_ _ | with_reducible refine Keeps.setCell ?_ (by first | (intro h; simp at h; done) | (intro _; simp; done) | (intro _; simp; omega) | (intro h; simp at h; omega)) _))) (fun hHeld => ?_)
      clear hK K
      try simp only [List.setIfInBounds_toArray, List.set_cons_zero, List.set_cons_succ]
      refine wpAnyH_done (by kernel_rfl) ?_ _
      clear hHeld b0 b1 b2 b3 b4 b5 b6 b7 b8 hbfree
      obtain ⟨Z, hZ⟩ : ∃ Z, Z = (((((((((Y.setCell ⟨b, 0, none⟩ (.bool true)).setCell ⟨b, 1, none⟩ (.string e.src)).setCell ⟨b, 2, none⟩ (.int .i64 e.num)).setCell ⟨b, 3, none⟩ (.int .i64 e.tick)).setCell ⟨b, 4, none⟩ (.int .i64 e.kind)).setCell ⟨b, 5, none⟩ (.string e.person)).setCell ⟨b, 6, none⟩ (.string e.item)).setCell ⟨b, 7, none⟩ (.int .i64 e.value)).setCell ⟨b, 8, none⟩ (.string e.text)).drew := ⟨_, rfl⟩
      rw [← hZ]
      have hkZ : Keeps (fun g => g ≠ b) Y Z := by rw [hZ]; repeat (first | with_reducible exact Keeps.refl _ _ | with_reducible exact Keeps.refl _ _ | with_reducible refine Keeps.drew ?_ | with_reducible refine Keeps.drewN ?_ _ | with_reducible refine Keeps.alloc ?_ _ | with_reducible refine Keeps.setCell ?_ (by first | (intro h; simp at h; done) | (intro _; simp; done) | (intro _; simp; omega) | (intro h; simp at h; omega)) _)
      have hbZ : Z.heap[b]? = some (.cells (catC ⟨true, e, c.things⟩ m) 133) := by
        rw [hZ]
        exact cat_last HbY.out
      obtain ⟨fp1, hc1, ht1⟩ := Hturn2.out Y m f ⟨true, e, c.things⟩ _ (Ob.ext (O := mapOb (strK (P := Tryz.prog) (kt := 9) Tryz.underlying9) (fun v : Value => v) (rowOb stR 164)) HrX.out hxY) (Turned.of_ext hxY) rfl Z hbZ hkZ
      have H3Z := Lib.hid (hkZ.blk H3Y.out hbg)
      have HmZ := Lib.hid (mx_keep (HmX.out.ext HwY.out) hkZ (blk_cell HbY.out 0 rfl))
      have HC1 := Lib.hid hc1
      have h3fp : g3 ∉ fp1 := fun hm => by
        rcases ht1.grew g3 hm with h9 | h9
        · have := Hfl.out g3 h9; have := Hg3.out; omega
        · omega
      have HT1 := Lib.hid ((Turned.of_ext HwX.out).trans ht1)
      clear hZ hbZ hkZ ht1 hbY hbX hbf hff hxY HrX HbX Hturn2 HbY f m
      obtain ⟨m, f, hb, hr, hff, hbf, _, hbZ, hturn, _⟩ := BoxAt.focus hc1
      obtain ⟨v, fs, hrow, hvf, hmv, hlk, hput⟩ := rows_focus (K := (strK (P := Tryz.prog) (kt := 9) Tryz.underlying9)) hr e.item
      obtain ⟨l, hl⟩ : ∃ l, l = rowS c.things e.item := ⟨_, rfl⟩
      have hrow' : RowAt stR 164 Z v fs l := by rw [hl]; exact hrow
      rw [← hl] at hlen
      have Hl := Lib.hid hl
      obtain ⟨A, cc, rfl⟩ := hrow'.form
      have Hrow := Lib.hid hrow'
      have Hlk := Lib.hid (fun (y : XW Z) => show (Instr.lookup 131 (.map (some m)) (.string e.item) false).run Tryz.prog y.w = .ok (.slice A l.length cc) y.w from hlk Tryz.underlying131 (zero_ss y.w) (y.h.keeps _))
      have Hput := Lib.hid (fun (W : World) (v' : Value) (fs' : List Nat) (l' : List St) (hr' : RowAt stR 164 W v' fs' l') (ht' : Turned ((Value.slice A l.length cc).ownBlock.toList ++ fs) (v'.ownBlock.toList ++ fs') Z W) => hput Tryz.underlying131 W v' fs' l' hr' ht')
      have Hturn := Lib.hid hturn
      have HbZ := Lib.hid hb
      have HR1 := Lib.hid hr
      have g3Z : g3 < Z.heap.size := (Array.getElem?_eq_some_iff.1 H3Z.out).1
      have q5 : Z.cell? ⟨g3, 5, none⟩ = some (.string e.item) := blk_cell H3Z.out 5 rfl
      have b9 : Z.cell? ⟨b, 9, none⟩ = some (.map (some m)) := blk_cell hb 9 rfl
      clear hl hrow hrow' hlk hput hturn hb hr hc1
      go_upto_region 6 with fail
      refine wp_region_ext Z (Keeps.refl _ _) (by kernel_rfl) (by kernel_rfl) ?_
      have hcell := fun (y : XW Z) => y.cell
      have kz := Hlk.out
      repeat (go_big_quiet_step (fail))
      refine wpQuiet_nil ?_
      rintro _ ⟨y, rfl⟩
      clear kz hcell
      obtain ⟨V, hV⟩ : ∃ V, V = y.w := ⟨_, rfl⟩
      have HxV := Lib.hid (show Ext Z V by rw [hV]; exact y.h)
      rw [← hV]
      have H3V := Lib.hid (HxV.out.blk H3Z.out)
      have p5 : V.cell? ⟨g3, 5, none⟩ = some (.string e.item) := blk_cell H3V.out 5 rfl
      clear hV y q5 b9 Hlk
      go_upto_region 8 with fail
      obtain ⟨g6, hg6⟩ : ∃ g6, g6 = V.heap.size := ⟨_, rfl⟩
      obtain ⟨V1, hV1⟩ : ∃ V1, V1 = V.alloc (.cells #[.int .i64 0, .bool false, .string e.item, .string ⟨#[]⟩, .string ⟨#[]⟩, .int .i64 0, .int .i64 0, .int .i64 0, .bool false] 164) := ⟨_, rfl⟩
      rw [← hV1, ← hg6]
      have hG6 : V1.heap[g6]? = some (.cells #[.int .i64 0, .bool false, .string e.item, .string ⟨#[]⟩, .string ⟨#[]⟩, .int .i64 0, .int .i64 0, .int .i64 0, .bool false] 164) := by rw [hV1, hg6]; exact blk_new _ _
      have hxV1 : Ext V V1 := by rw [hV1]; exact (Keeps.refl _ _).alloc _
      have HG6 := Lib.hid hG6
      have HxV1 := Lib.hid hxV1
      have Hg6 := Lib.hid (show V.heap.size ≤ g6 by omega)
      clear hV1 hg6 p5 hG6 hxV1
      go_upto_if 58 with fail
      go_cut [] (fun wx => wx.heap[g6]? = some (.cells (stL (stLast l e.item)).toArray 164) ∧ Ext V wx)
      case first =>
        by_cases hl0 : l = []
        · have d1 : decide ((0 : Int) < (l.length : Int)) = false := by rw [hl0]; rfl
          have d2 : decide (0 < l.length) = false := by rw [hl0]; rfl
          have d3 : ¬ 0 < l.length := by rw [hl0]; simp
          have d4 : ¬ (0 : Int) < (l.length : Int) := by rw [hl0]; simp
          have Hr := Lib.hid (show V1.heap[g6]? = some (.cells (stL (stLast l e.item)).toArray 164) ∧ Ext V V1 from ⟨by rw [hl0]; exact HG6.out, HxV1.out⟩)
          clear hl0
          go_wp2_with fail
          go_meet
          exact Hr.out
        · have hlt : l.length - 1 < l.length := by have := List.length_pos_iff.2 hl0; omega
          obtain ⟨b2, o2, s, rfl, hb2, _, hs2, d0, d1, d2, d3, d4, d5, d6, d7, d8⟩ := (Hrow.out.ext (HxV.out.trans HxV1.out)).sl.st hlt
          have hlast : stLast l e.item = s := by unfold stLast; rw [List.getLast?_eq_getElem?, hs2]; rfl
          obtain ⟨j, hj⟩ : ∃ j, j = l.length - 1 := ⟨_, rfl⟩
          rw [← hj] at d0 d1 d2 d3 d4 d5 d6 d7 d8 hlt
          have hkj : (l.length : Int) - 1 = (j : Int) := by omega
          have j0 : (0 : Int) ≤ (j : Int) := by omega
          have j1 : (j : Int) < (l.length : Int) := by omega
          have dd1 : decide ((0 : Int) < (l.length : Int)) = true := by simp; omega
          have dd2 : decide (0 < l.length) = true := by simp; omega
          have dd3 : 0 < l.length := by omega
          have Hla := Lib.hid hlast
          have gfree := blk_free HG6.out
          have hg6l : g6 < V1.heap.size := (Array.getElem?_eq_some_iff.1 HG6.out).1
          have e0 : V1.cell? ⟨g6, 0, none⟩ = some (.int .i64 0) := blk_cell HG6.out 0 rfl
          have e1 : V1.cell? ⟨g6, 1, none⟩ = some (.bool false) := blk_cell HG6.out 1 rfl
          have e2 : V1.cell? ⟨g6, 2, none⟩ = some (.string e.item) := blk_cell HG6.out 2 rfl
          have e3 : V1.cell? ⟨g6, 3, none⟩ = some (.string ⟨#[]⟩) := blk_cell HG6.out 3 rfl
          have e4 : V1.cell? ⟨g6, 4, none⟩ = some (.string ⟨#[]⟩) := blk_cell HG6.out 4 rfl
          have e5 : V1.cell? ⟨g6, 5, none⟩ = some (.int .i64 0) := blk_cell HG6.out 5 rfl
          have e6 : V1.cell? ⟨g6, 6, none⟩ = some (.int .i64 0) := blk_cell HG6.out 6 rfl
          have e7 : V1.cell? ⟨g6, 7, none⟩ = some (.int .i64 0) := blk_cell HG6.out 7 rfl
          have e8 : V1.cell? ⟨g6, 8, none⟩ = some (.bool false) := blk_cell HG6.out 8 rfl
          clear hj hl0 hs2 hlast
          go_wp2_with fail
          go_meet
          refine ⟨by rw [Hla.out]; exact st_store (s0 := ⟨0, false, e.item, ⟨#[]⟩, ⟨#[]⟩, 0, 0, 0, false⟩) HG6.out, ?_⟩
          have hg6v := Hg6.out
          repeat (first | with_reducible exact HxV1.out | with_reducible exact Keeps.refl _ _ | with_reducible refine Keeps.drew ?_ | with_reducible refine Keeps.drewN ?_ _ | with_reducible refine Keeps.alloc ?_ _ | with_reducible refine Keeps.setCell ?_ (by first | (intro h; simp at h; done) | (intro _; simp; done) | (intro _; simp; omega) | (intro h; simp at h; omega)) _)
      case rest =>
        obtain ⟨hG6, hxU⟩ := hcut
        obtain ⟨U, hU⟩ : ∃ U, U = wc := ⟨_, rfl⟩
        rw [← hU] at hG6 hxU ⊢
        obtain ⟨s, hs⟩ : ∃ s, s = stLast l e.item := ⟨_, rfl⟩
        rw [← hs] at hG6
        have Hs := Lib.hid hs
        have hg6v := Hg6.out
        have gfree := blk_free hG6
        have hg6l : g6 < U.heap.size := (Array.getElem?_eq_some_iff.1 hG6).1
        have e0 : U.cell? ⟨g6, 0, none⟩ = some (.int .i64 s.tick) := blk_cell hG6 0 rfl
        have h3U := hxU.blk H3V.out
        have p2 : U.cell? ⟨g3, 2, none⟩ = some (.int .i64 e.tick) := blk_cell h3U 2 rfl
        have HxU := Lib.hid hxU
        have HG6U := Lib.hid hG6
        have H3U := Lib.hid h3U
        have hg36 : g3 ≠ g6 := by have := (Array.getElem?_eq_some_iff.1 H3V.out).1; omega
        clear hs hU hxU hG6 h3U
        go_upto_region 11 with fail
        obtain ⟨U1, hU1⟩ : ∃ U1, U1 = U.setCell ⟨g6, 0, none⟩ (.int .i64 e.tick) := ⟨_, rfl⟩
        rw [← hU1]
        have hG1 : U1.heap[g6]? = some (.cells (stL ⟨e.tick, s.born, s.name, s.maker, s.tags, s.stock, s.price, s.bornAt, s.listed⟩).toArray 164) := by
          rw [hU1]
          have h9 := blk_set HG6U.out 0 (.int .i64 e.tick)
          simp only [stL, List.setIfInBounds_toArray, List.set_cons_zero] at h9
          exact h9
        have hxU1 : Ext V U1 := by rw [hU1]; repeat (first | with_reducible exact HxU.out | with_reducible exact Keeps.refl _ _ | with_reducible refine Keeps.drew ?_ | with_reducible refine Keeps.drewN ?_ _ | with_reducible refine Keeps.alloc ?_ _ | with_reducible refine Keeps.setCell ?_ (by first | (intro h; simp at h; done) | (intro _; simp; done) | (intro _; simp; omega) | (intro h; simp at h; omega)) _)
        have h3U1 : U1.heap[g3]? = some (.cells #[.string e.src, .int .i64 e.num, .int .i64 e.tick, .int .i64 e.kind, .string e.person, .string e.item, .int .i64 e.value, .string e.text] 30) := hxU1.blk H3V.out
        have HG1 := Lib.hid hG1
        have HxU1 := Lib.hid hxU1
        have H31 := Lib.hid h3U1
        clear hU1 hG1 hxU1 e0 p2 gfree hg6l
        have p3 : U1.cell? ⟨g3, 3, none⟩ = some (.int .i64 kd) := by rw [HkdE.out]; exact blk_cell h3U1 3 rfl
        clear h3U1
        go_upto_block 0 with fail
        go_cut [] (fun wx => wx.heap[g6]? = some (.cells (stL (stNext s e)).toArray 164) ∧ Ext V wx)
        case first =>
          have gfree := blk_free HG1.out
          have hg6l : g6 < U1.heap.size := (Array.getElem?_eq_some_iff.1 HG1.out).1
          have e0 : U1.cell? ⟨g6, 0, none⟩ = some (.int .i64 e.tick) := blk_cell HG1.out 0 rfl
          have e1 : U1.cell? ⟨g6, 1, none⟩ = some (.bool s.born) := blk_cell HG1.out 1 rfl
          have e3 : U1.cell? ⟨g6, 3, none⟩ = some (.string s.maker) := blk_cell HG1.out 3 rfl
          have e4 : U1.cell? ⟨g6, 4, none⟩ = some (.string s.tags) := blk_cell HG1.out 4 rfl
          have e5 : U1.cell? ⟨g6, 5, none⟩ = some (.int .i64 s.stock) := blk_cell HG1.out 5 rfl
          have e6 : U1.cell? ⟨g6, 6, none⟩ = some (.int .i64 s.price) := blk_cell HG1.out 6 rfl
          have e7 : U1.cell? ⟨g6, 7, none⟩ = some (.int .i64 s.bornAt) := blk_cell HG1.out 7 rfl
          have e8 : U1.cell? ⟨g6, 8, none⟩ = some (.bool s.listed) := blk_cell HG1.out 8 rfl
          have p6 : U1.cell? ⟨g3, 6, none⟩ = some (.int .i64 e.value) := blk_cell H31.out 6 rfl
          have p7 : U1.cell? ⟨g3, 7, none⟩ = some (.string e.text) := blk_cell H31.out 7 rfl
          rcases hk with rfl | rfl | rfl
          · go_upto_region 14 with fail
            obtain ⟨U2, hU2⟩ : ∃ U2, U2 = U1.setCell ⟨g6, 8, none⟩ (.bool true) := ⟨_, rfl⟩
            rw [← hU2]
            have hG2 : U2.heap[g6]? = some (.cells (stL ⟨e.tick, s.born, s.name, s.maker, s.tags, s.stock, s.price, s.bornAt, true⟩).toArray 164) := by
              rw [hU2]
              have h9 := blk_set HG1.out 8 (.bool true)
              simp only [stL, List.setIfInBounds_toArray, List.set_cons_zero, List.set_cons_succ] at h9
              exact h9
            have hxU2 : Ext V U2 := by rw [hU2]; repeat (first | with_reducible exact HxU1.out | with_reducible exact Keeps.refl _ _ | with_reducible refine Keeps.drew ?_ | with_reducible refine Keeps.drewN ?_ _ | with_reducible refine Keeps.alloc ?_ _ | with_reducible refine Keeps.setCell ?_ (by first | (intro h; simp at h; done) | (intro _; simp; done) | (intro _; simp; omega) | (intro h; simp at h; omega)) _)
            have h3U2 : U2.heap[g3]? = some (.cells #[.string e.src, .int .i64 e.num, .int .i64 e.tick, .int .i64 e.kind, .string e.person, .string e.item, .int .i64 e.value, .string e.text] 30) := hxU2.blk H3V.out
            have HG2 := Lib.hid hG2
            have HxU2 := Lib.hid hxU2
            have H32 := Lib.hid h3U2
            have HCut := Lib.hid (str_Cut59 e.text U2 HT.out (HmZ.out.ext (HxV.out.trans HxU2.out)))
            clear hU2 e0 e1 e3 e4 e5 e6 e7 e8 p6 p3 gfree hg6l hG2 hxU2 h3U2 p7
            have p7 : U2.cell? ⟨g3, 7, none⟩ = some (.string e.text) := blk_cell H32.out 7 rfl
            go_upto_region 16 with (go_at_call 71; refine HCut.out.mono ?_; rintro _ w5 ⟨rfl, hx5⟩; have Hx5 := Lib.hid hx5; have HG5 := Lib.hid (hx5.blk HG2.out); have H35 := Lib.hid (hx5.blk H32.out); clear hx5 p7; have gfree := blk_free HG5.out; have hg6l : g6 < w5.heap.size := (Array.getElem?_eq_some_iff.1 HG5.out).1; have e3 : w5.cell? ⟨g6, 3, none⟩ = some (.string s.maker) := blk_cell HG5.out 3 rfl; have e4 : w5.cell? ⟨g6, 4, none⟩ = some (.string s.tags) := blk_cell HG5.out 4 rfl; have e6 : w5.cell? ⟨g6, 6, none⟩ = some (.int .i64 s.price) := blk_cell HG5.out 6 rfl; have p6 : w5.cell? ⟨g3, 6, none⟩ = some (.int .i64 e.value) := blk_cell H35.out 6 rfl)
            obtain ⟨U3, hU3⟩ : ∃ U3, U3 = ((w5.setCell ⟨g6, 3, none⟩ (.string (makerB e.text))).setCell ⟨g6, 4, none⟩ (.string (restB e.text))).setCell ⟨g6, 6, none⟩ (.int .i64 e.value) := ⟨_, rfl⟩
            rw [← hU3]
            have hG3 : U3.heap[g6]? = some (.cells (stL ⟨e.tick, s.born, s.name, makerB e.text, restB e.text, s.stock, e.value, s.bornAt, true⟩).toArray 164) := by
              rw [hU3]
              have h9 := blk_set (blk_set (blk_set HG5.out 3 (.string (makerB e.text))) 4 (.string (restB e.text))) 6 (.int .i64 e.value)
              simp only [stL, List.setIfInBounds_toArray, List.set_cons_zero, List.set_cons_succ] at h9
              exact h9
            have hxU3 : Ext V U3 := by rw [hU3]; repeat (first | with_reducible exact HxU2.out.trans Hx5.out | with_reducible exact Keeps.refl _ _ | with_reducible refine Keeps.drew ?_ | with_reducible refine Keeps.drewN ?_ _ | with_reducible refine Keeps.alloc ?_ _ | with_reducible refine Keeps.setCell ?_ (by first | (intro h; simp at h; done) | (intro _; simp; done) | (intro _; simp; omega) | (intro h; simp at h; omega)) _)
            have HG3 := Lib.hid hG3
            have HxU3 := Lib.hid hxU3
            have H33 := Lib.hid (hxU3.blk H3V.out)
            clear hU3 e3 e4 e6 p6 gfree hg6l hG3 hxU3
            cases hbo : s.born
            · have e1 : U3.cell? ⟨g6, 1, none⟩ = some (.bool false) := by have h9 := blk_cell HG3.out 1 rfl; rw [hbo] at h9; exact h9
              have gfree := blk_free HG3.out
              have hg6l : g6 < U3.heap.size := (Array.getElem?_eq_some_iff.1 HG3.out).1
              have e7 : U3.cell? ⟨g6, 7, none⟩ = some (.int .i64 s.bornAt) := blk_cell HG3.out 7 rfl
              have Hn := Lib.hid (next11 (s := s) HkdE.out.symm)
              have Hbo := Lib.hid hbo
              have HS := Lib.hid (fun (w' : World) (hk : Keeps (fun g => g ≠ g6) U3 w') => show w'.cell? ⟨g3, 2, none⟩ = some (.int .i64 e.tick) from blk_cell (hk.blk H33.out hg36) 2 rfl)
              clear hbo
              go_upto_region 17 with fail
              refine wp_region_held_drew (S := fun w' => w'.cell? ⟨g3, 2, none⟩ = some (.int .i64 e.tick)) (by kernel_rfl) (by exact HS.out U3.drew ((Keeps.refl _ _).drew)) (fun hHeld => ?_)
              change wpAnyH _ _ _ _ _ _ #[false, false, false, false, false, false, false] _ _
              refine wpAnyH_take (i := 0) (oi := { dst := some 92, op := Go.Op.fieldAddr 30 (Go.Operand.tmp 3) 2, type := 0, pos := "catalog.go:54", after := #[{ on := 3, ground := Go.Ground.gcOnly Go.Departure.lateStores }], guard := none }) (v := ?_) rfl (by kernel_rfl) (by kernel_rfl) (by kernel_rfl) (fun _ _ _ h => h) (Or.inl ⟨by rfl, ?_⟩) hHeld ?_
              rotate_left
              · intro w hSw
                (try dsimp only at hSw)
                go_simp
                all_goals (with_reducible rfl)
              try simp only [Act.put, List.setIfInBounds_toArray, List.set_cons_zero, List.set_cons_succ]
              refine wpAnyH_take (i := 1) (oi := { dst := some 93, op := Go.Op.load 3 (Go.Operand.tmp 92), type := 3, pos := "catalog.go:54", after := #[{ on := 0, ground := Go.Ground.data }, { on := 3, ground := Go.Ground.gcOnly Go.Departure.lateStores }], guard := none }) (v := ?_) rfl (by kernel_rfl) (by kernel_rfl) (by kernel_rfl) (fun _ _ _ h => h) (Or.inl ⟨by rfl, ?_⟩) hHeld ?_
              rotate_left
              · intro w hSw
                (try dsimp only at hSw)
                go_simp
                all_goals (with_reducible rfl)
              try simp only [Act.put, List.setIfInBounds_toArray, List.set_cons_zero, List.set_cons_succ]
              refine wpAnyH_take (i := 2) (oi := { dst := some 94, op := Go.Op.fieldAddr 164 (Go.Operand.tmp 6) 1, type := 0, pos := "catalog.go:54", after := #[{ on := 0, ground := Go.Ground.textOnly Go.Departure.lateStores }, { on := 1, ground := Go.Ground.textOnly Go.Departure.lateStores }], guard := none }) (v := ?_) rfl (by kernel_rfl) (by kernel_rfl) (by kernel_rfl) (fun _ _ _ h => h) (Or.inl ⟨by rfl, ?_⟩) hHeld ?_
              rotate_left
              · intro w hSw
                (try dsimp only at hSw)
                go_simp
                all_goals (with_reducible rfl)
              try simp only [Act.put, List.setIfInBounds_toArray, List.set_cons_zero, List.set_cons_succ]
              refine wpAnyH_ready (rs := [3]) (by kernel_rfl) (by simp) ?_
              refine (AllReadyH.cons (o := { dst := none, op := Go.Op.store 4 (Go.Operand.tmp 94) (Go.Operand.const (Go.Value.bool true)), type := 0, pos := "catalog.go:54", after := #[{ on := 2, ground := Go.Ground.data }, { on := 0, ground := Go.Ground.textOnly Go.Departure.lateStores }, { on := 1, ground := Go.Ground.textOnly Go.Departure.lateStores }], guard := none }) rfl (fun K hK => ?_) AllReadyH.nil)
              go_simp
              refine hK.out _ _ (by exact HS.out _ (by repeat (first | with_reducible exact Keeps.refl _ _ | with_reducible exact Keeps.refl _ _ | with_reducible refine Keeps.drew ?_ | with_reducible refine Keeps.drewN ?_ _ | with_reducible refine Keeps.alloc ?_ _ | with_reducible refine Keeps.setCell ?_ (by first | (intro h; simp at h; done) | (intro _; simp; done) | (intro _; simp; omega) | (intro h; simp at h; omega)) _))) (fun hHeld => ?_)
              clear hK K
              try simp only [List.setIfInBounds_toArray, List.set_cons_zero, List.set_cons_succ]
              refine wpAnyH_take (i := 4) (oi := { dst := some 95, op := Go.Op.fieldAddr 164 (Go.Operand.tmp 6) 2, type := 0, pos := "catalog.go:54", after := #[{ on := 0, ground := Go.Ground.phase }, { on := 1, ground := Go.Ground.phase }, { on := 2, ground := Go.Ground.phase }, { on := 3, ground := Go.Ground.phase }], guard := none }) (v := ?_) rfl (by kernel_rfl) (by kernel_rfl) (by kernel_rfl) (fun _ _ _ h => h) (Or.inl ⟨by rfl, ?_⟩) hHeld ?_
              rotate_left
              · intro w hSw
                (try dsimp only at hSw)
                go_simp
                all_goals (with_reducible rfl)
              try simp only [Act.put, List.setIfInBounds_toArray, List.set_cons_zero, List.set_cons_succ]
              refine wpAnyH_take (i := 5) (oi := { dst := some 96, op := Go.Op.fieldAddr 117 (Go.Operand.tmp 95) 5, type := 0, pos := "catalog.go:54", after := #[{ on := 4, ground := Go.Ground.data }, { on := 0, ground := Go.Ground.phase }, { on := 1, ground := Go.Ground.phase }, { on := 2, ground := Go.Ground.phase }, { on := 3, ground := Go.Ground.phase }], guard := none }) (v := ?_) rfl (by kernel_rfl) (by kernel_rfl) (by kernel_rfl) (fun _ _ _ h => h) (Or.inl ⟨by rfl, ?_⟩) hHeld ?_
              rotate_left
              · intro w hSw
                (try dsimp only at hSw)
                go_simp
                all_goals (with_reducible rfl)
              try simp only [Act.put, List.setIfInBounds_toArray, List.set_cons_zero, List.set_cons_succ]
              refine wpAnyH_ready (rs := [6]) (by kernel_rfl) (by simp) ?_
              refine (AllReadyH.cons (o := { dst := none, op := Go.Op.store 3 (Go.Operand.tmp 96) (Go.Operand.tmp 93), type := 0, pos := "catalog.go:54", after := #[{ on := 5, ground := Go.Ground.data }, { on := 1, ground := Go.Ground.data }, { on := 3, ground := Go.Ground.chain }, { on := 0, ground := Go.Ground.phase }, { on := 1, ground := Go.Ground.phase }, { on := 2, ground := Go.Ground.phase }, { on := 3, ground := Go.Ground.phase }], guard := none }) rfl (fun K hK => ?_) AllReadyH.nil)
              go_simp
              refine hK.out _ _ (by exact HS.out _ (by repeat (first | with_reducible exact Keeps.refl _ _ | with_reducible exact Keeps.refl _ _ | with_reducible refine Keeps.drew ?_ | with_reducible refine Keeps.drewN ?_ _ | with_reducible refine Keeps.alloc ?_ _ | with_reducible refine Keeps.setCell ?_ (by first | (intro h; simp at h; done) | (intro _; simp; done) | (intro _; simp; omega) | (intro h; simp at h; omega)) _))) (fun hHeld => ?_)
              clear hK K
              try simp only [List.setIfInBounds_toArray, List.set_cons_zero, List.set_cons_succ]
              refine wpAnyH_done (by kernel_rfl) ?_ _
              clear hHeld
              go_wp2_with fail
              go_meet
              refine ⟨?_, ?_⟩
              · have h9 := blk_set (blk_set HG3.out 1 (.bool true)) 7 (.int .i64 e.tick)
                simp only [stL, List.setIfInBounds_toArray, List.set_cons_zero, List.set_cons_succ] at h9
                rw [Hn.out, Hbo.out]
                exact h9
              · repeat (first | with_reducible exact HxU3.out | with_reducible exact Keeps.refl _ _ | with_reducible refine Keeps.drew ?_ | with_reducible refine Keeps.drewN ?_ _ | with_reducible refine Keeps.alloc ?_ _ | with_reducible refine Keeps.setCell ?_ (by first | (intro h; simp at h; done) | (intro _; simp; done) | (intro _; simp; omega) | (intro h; simp at h; omega)) _)
            · have e1 : U3.cell? ⟨g6, 1, none⟩ = some (.bool true) := by have h9 := blk_cell HG3.out 1 rfl; rw [hbo] at h9; exact h9
              have Hr := Lib.hid (show U3.heap[g6]? = some (.cells (stL (stNext s e)).toArray 164) by rw [next11 (s := s) HkdE.out.symm, hbo]; have h9 := HG3.out; rw [hbo] at h9; exact h9)
              clear hbo
              go_wp2_with fail
              go_meet
              exact ⟨Hr.out, HxU3.out⟩
          · have Hn := Lib.hid (next12 (s := s) HkdE.out.symm)
            go_wp2_with fail
            go_meet
            refine ⟨?_, ?_⟩
            · have h9 := blk_set HG1.out 5 (.int .i64 e.value)
              simp only [stL, List.setIfInBounds_toArray, List.set_cons_zero, List.set_cons_succ] at h9
              rw [Hn.out]
              exact h9
            · repeat (first | with_reducible exact HxU1.out | with_reducible exact Keeps.refl _ _ | with_reducible refine Keeps.drew ?_ | with_reducible refine Keeps.drewN ?_ _ | with_reducible refine Keeps.alloc ?_ _ | with_reducible refine Keeps.setCell ?_ (by first | (intro h; simp at h; done) | (intro _; simp; done) | (intro _; simp; omega) | (intro h; simp at h; omega)) _)
          · have Hn := Lib.hid (next13 (s := s) HkdE.out.symm)
            go_wp2_with fail
            go_meet
            refine ⟨?_, ?_⟩
            · have h9 := blk_set HG1.out 8 (.bool false)
              simp only [stL, List.setIfInBounds_toArray, List.set_cons_zero, List.set_cons_succ] at h9
              rw [Hn.out]
              exact h9
            · repeat (first | with_reducible exact HxU1.out | with_reducible exact Keeps.refl _ _ | with_reducible refine Keeps.drew ?_ | with_reducible refine Keeps.drewN ?_ _ | with_reducible refine Keeps.alloc ?_ _ | with_reducible refine Keeps.setCell ?_ (by first | (intro h; simp at h; done) | (intro _; simp; done) | (intro _; simp; omega) | (intro h; simp at h; omega)) _)
        case rest =>
          obtain ⟨hG9, hx9⟩ := hcut
          obtain ⟨Q, hQ⟩ : ∃ Q, Q = wc := ⟨_, rfl⟩
          rw [← hQ] at hG9 hx9 ⊢
          obtain ⟨s', hs'⟩ : ∃ s', s' = stNext s e := ⟨_, rfl⟩
          rw [← hs'] at hG9
          have HQs := Lib.hid hs'
          have hxQ : Ext Z Q := HxV.out.trans hx9
          have HbQ := Lib.hid (hxQ.blk HbZ.out)
          have H3Q := Lib.hid (hxQ.blk H3Z.out)
          have H6Q := Lib.hid hG9
          have HxQ := Lib.hid hxQ
          obtain ⟨i0, hi0, hy0, hy1, hy2⟩ := info_of2 info_state
          have hQl := hxQ.size
          have h6Q : g6 < Q.heap.size := (Array.getElem?_eq_some_iff.1 hG9).1
          have h6Z : Z.heap.size ≤ g6 := Nat.le_trans HxV.out.size Hg6.out
          have hbfp1 : b ∈ fp1 := (BoxAt.focus HC1.out).choose_spec.choose_spec.2.2.2.2.1
          have Hft := Lib.hid (fun g (hg : g ∈ f) => (mapOb (strK (P := Tryz.prog) (kt := 9) Tryz.underlying9) (fun v : Value => v) (rowOb stR 164)).lt HR1.out g hg)
          have h3f : g3 ∉ f := fun hm => h3fp (hff _ hm)
          have h6f : g6 ∉ f := fun hm => by have := Hft.out g6 hm; omega
          have Hfree := Lib.hid (fun (g : Nat) (hg : g = b ∨ g = g3 ∨ g = g6) => show g ∉ f by rcases hg with rfl | rfl | rfl; exact hbf; exact h3f; exact h6f)
          have Hvf := Lib.hid hvf
          have HS := Lib.hid (fun (w' : World) (hk : Keeps (fun g => g = b ∨ g = g3 ∨ g = g6) Q w') => show w'.cell? ⟨b, 9, none⟩ = some (.map (some m)) ∧ w'.cell? ⟨g3, 5, none⟩ = some (.string e.item) ∧ w'.cell? ⟨g6, 0, none⟩ = some (.int .i64 s'.tick) ∧ w'.cell? ⟨g6, 1, none⟩ = some (.bool s'.born) ∧ w'.cell? ⟨g6, 2, none⟩ = some (.string s'.name) ∧ w'.cell? ⟨g6, 3, none⟩ = some (.string s'.maker) ∧ w'.cell? ⟨g6, 4, none⟩ = some (.string s'.tags) ∧ w'.cell? ⟨g6, 5, none⟩ = some (.int .i64 s'.stock) ∧ w'.cell? ⟨g6, 6, none⟩ = some (.int .i64 s'.price) ∧ w'.cell? ⟨g6, 7, none⟩ = some (.int .i64 s'.bornAt) ∧ w'.cell? ⟨g6, 8, none⟩ = some (.bool s'.listed) from
            ⟨blk_cell (hk.blk HbQ.out (.inl rfl)) 9 rfl, blk_cell (hk.blk H3Q.out (.inr (.inl rfl))) 5 rfl, blk_cell (hk.blk H6Q.out (.inr (.inr rfl))) 0 rfl, blk_cell (hk.blk H6Q.out (.inr (.inr rfl))) 1 rfl, blk_cell (hk.blk H6Q.out (.inr (.inr rfl))) 2 rfl, blk_cell (hk.blk H6Q.out (.inr (.inr rfl))) 3 rfl, blk_cell (hk.blk H6Q.out (.inr (.inr rfl))) 4 rfl, blk_cell (hk.blk H6Q.out (.inr (.inr rfl))) 5 rfl, blk_cell (hk.blk H6Q.out (.inr (.inr rfl))) 6 rfl, blk_cell (hk.blk H6Q.out (.inr (.inr rfl))) 7 rfl, blk_cell (hk.blk H6Q.out (.inr (.inr rfl))) 8 rfl⟩)
          have Hmr := Lib.hid (MapOf.root (K := (strK (P := Tryz.prog) (kt := 9) Tryz.underlying9)) HR1.out)
          clear hQ hs' hG9 hx9 hxQ hbf hff hvf
          go_upto_region 22 with fail
          refine wp_region_held_drew (S := fun w' => w'.cell? ⟨b, 9, none⟩ = some (.map (some m)) ∧ w'.cell? ⟨g3, 5, none⟩ = some (.string e.item) ∧ w'.cell? ⟨g6, 0, none⟩ = some (.int .i64 s'.tick) ∧ w'.cell? ⟨g6, 1, none⟩ = some (.bool s'.born) ∧ w'.cell? ⟨g6, 2, none⟩ = some (.string s'.name) ∧ w'.cell? ⟨g6, 3, none⟩ = some (.string s'.maker) ∧ w'.cell? ⟨g6, 4, none⟩ = some (.string s'.tags) ∧ w'.cell? ⟨g6, 5, none⟩ = some (.int .i64 s'.stock) ∧ w'.cell? ⟨g6, 6, none⟩ = some (.int .i64 s'.price) ∧ w'.cell? ⟨g6, 7, none⟩ = some (.int .i64 s'.bornAt) ∧ w'.cell? ⟨g6, 8, none⟩ = some (.bool s'.listed)) (by kernel_rfl) (by exact HS.out Q.drew ((Keeps.refl _ _).drew)) (fun hHeld => ?_)
          change wpAnyH _ _ _ _ _ _ #[false, false, false, false, false, false, false, false, false, false, false] _ _
          refine wpAnyH_take (i := 0) (oi := { dst := some 107, op := Go.Op.move (Go.Operand.tmp 0), type := 54, pos := "catalog.go:61", after := #[], guard := none }) (v := ?_) rfl (by kernel_rfl) (by kernel_rfl) (by kernel_rfl) (fun _ _ _ h => h) (Or.inl ⟨by rfl, ?_⟩) hHeld ?_
          rotate_left
          · intro w hSw
            (try dsimp only at hSw)
            go_simp
            all_goals (with_reducible rfl)
          try simp only [Act.put, List.setIfInBounds_toArray, List.set_cons_zero, List.set_cons_succ]
          refine wpAnyH_take (i := 1) (oi := { dst := some 108, op := Go.Op.nilCheck (Go.Operand.tmp 107), type := 0, pos := "catalog.go:61", after := #[{ on := 0, ground := Go.Ground.data }], guard := none }) (v := ?_) rfl (by kernel_rfl) (by kernel_rfl) (by kernel_rfl) (fun _ _ _ h => h) (Or.inl ⟨by rfl, ?_⟩) hHeld ?_
          rotate_left
          · intro w hSw
            (try dsimp only at hSw)
            go_simp
            all_goals (with_reducible rfl)
          try simp only [Act.put, List.setIfInBounds_toArray, List.set_cons_zero, List.set_cons_succ]
          refine wpAnyH_take (i := 2) (oi := { dst := some 109, op := Go.Op.fieldAddr 133 (Go.Operand.tmp 108) 2, type := 0, pos := "catalog.go:61", after := #[{ on := 1, ground := Go.Ground.data }], guard := none }) (v := ?_) rfl (by kernel_rfl) (by kernel_rfl) (by kernel_rfl) (fun _ _ _ h => h) (Or.inl ⟨by rfl, ?_⟩) hHeld ?_
          rotate_left
          · intro w hSw
            (try dsimp only at hSw)
            go_simp
            all_goals (with_reducible rfl)
          try simp only [Act.put, List.setIfInBounds_toArray, List.set_cons_zero, List.set_cons_succ]
          refine wpAnyH_take (i := 3) (oi := { dst := some 110, op := Go.Op.load 131 (Go.Operand.tmp 109), type := 131, pos := "catalog.go:61", after := #[{ on := 2, ground := Go.Ground.data }], guard := none }) (v := ?_) rfl (by kernel_rfl) (by kernel_rfl) (by kernel_rfl) (fun _ _ _ h => h) (Or.inl ⟨by rfl, ?_⟩) hHeld ?_
          rotate_left
          · intro w hSw
            (try dsimp only at hSw)
            go_simp
            all_goals (with_reducible rfl)
          try simp only [Act.put, List.setIfInBounds_toArray, List.set_cons_zero, List.set_cons_succ]
          refine wpAnyH_take (i := 4) (oi := { dst := some 111, op := Go.Op.fieldAddr 30 (Go.Operand.tmp 3) 5, type := 0, pos := "catalog.go:61", after := #[], guard := none }) (v := ?_) rfl (by kernel_rfl) (by kernel_rfl) (by kernel_rfl) (fun _ _ _ h => h) (Or.inl ⟨by rfl, ?_⟩) hHeld ?_
          rotate_left
          · intro w hSw
            (try dsimp only at hSw)
            go_simp
            all_goals (with_reducible rfl)
          try simp only [Act.put, List.setIfInBounds_toArray, List.set_cons_zero, List.set_cons_succ]
          refine wpAnyH_take (i := 5) (oi := { dst := some 112, op := Go.Op.load 9 (Go.Operand.tmp 111), type := 9, pos := "catalog.go:61", after := #[{ on := 4, ground := Go.Ground.data }], guard := none }) (v := ?_) rfl (by kernel_rfl) (by kernel_rfl) (by kernel_rfl) (fun _ _ _ h => h) (Or.inl ⟨by rfl, ?_⟩) hHeld ?_
          rotate_left
          · intro w hSw
            (try dsimp only at hSw)
            go_simp
            all_goals (with_reducible rfl)
          try simp only [Act.put, List.setIfInBounds_toArray, List.set_cons_zero, List.set_cons_succ]
          refine wpAnyH_take (i := 6) (oi := { dst := some 113, op := Go.Op.move (Go.Operand.tmp 5), type := 162, pos := "catalog.go:61", after := #[], guard := none }) (v := ?_) rfl (by kernel_rfl) (by kernel_rfl) (by kernel_rfl) (fun _ _ _ h => h) (Or.inl ⟨by rfl, ?_⟩) hHeld ?_
          rotate_left
          · intro w hSw
            (try dsimp only at hSw)
            go_simp
            all_goals (with_reducible rfl)
          try simp only [Act.put, List.setIfInBounds_toArray, List.set_cons_zero, List.set_cons_succ]
          refine wpAnyH_take (i := 7) (oi := { dst := some 114, op := Go.Op.load 164 (Go.Operand.tmp 6), type := 164, pos := "catalog.go:61", after := #[], guard := none }) (v := ?_) rfl (by kernel_rfl) (by kernel_rfl) (by kernel_rfl) (fun _ _ _ h => h) (Or.inl ⟨by rfl, ?_⟩) hHeld ?_
          rotate_left
          · intro w hSw
            (try dsimp only at hSw)
            go_simp
            all_goals (with_reducible rfl)
          try simp only [Act.put, List.setIfInBounds_toArray, List.set_cons_zero, List.set_cons_succ]
          refine wpAnyH_ready (rs := [8]) (by kernel_rfl) (by simp) ?_
          refine (AllReadyH.cons (o := { dst := some 115, op := Go.Op.buildSlice 162 1 #[(0, Go.Operand.tmp 114)], type := 162, pos := "catalog.go:61", after := #[{ on := 7, ground := Go.Ground.data }], guard := none }) rfl (fun K hK => ?_) AllReadyH.nil)
          go_simp
          refine hK.out _ _ (by exact HS.out _ (by repeat (first | with_reducible exact Keeps.refl _ _ | with_reducible exact hk5 | with_reducible exact hk6 | with_reducible refine Keeps.drew ?_ | with_reducible refine Keeps.alloc ?_ _))) (fun hHeld => ?_)
          clear hK K
          try simp only [List.setIfInBounds_toArray, List.set_cons_zero, List.set_cons_succ]
          refine wpAnyH_ready (rs := [9]) (by kernel_rfl) (by simp) ?_
          refine (AllReadyH.cons (o := { dst := some 116, op := Go.Op.call { callee := Go.Callee.builtin Go.Builtin.append, args := #[Go.Operand.tmp 113, Go.Operand.tmp 115], argTypes := #[162, 162] }, type := 162, pos := "catalog.go:61", after := #[{ on := 6, ground := Go.Ground.data }, { on := 8, ground := Go.Ground.data }], guard := none }) rfl (fun K hK => ?_) AllReadyH.nil)
          refine step_append_Own (ok := fun g => g ∈ fs) (R := stR) _ (by rfl) (.tmp 113) (.tmp 115) 162 (by rfl) 164 i0 _ 96 0 Tryz.underlying162 hi0 hy0 hy1 hy2 rfl (by decide) (by rfl) (Hrow.out.own.ext (by repeat (first | with_reducible exact HxQ.out | with_reducible refine Keeps.drew ?_ | with_reducible refine Keeps.alloc ?_ _))) _ 1 1 [s'] (by rfl) (Srcs.one_new rfl (blk_new _ _) rfl) (by omega) (by decide) (Nat.zero_le _) ?_; intro A5 c5 w5 hown5 hg5 hat5; obtain ⟨hrow5, ht5⟩ := RowAt.app Hrow.out (by repeat (first | with_reducible exact HxQ.out | with_reducible refine Keeps.drew ?_ | with_reducible refine Keeps.alloc ?_ _)) (hown5.mono (ok' := fun g => g ∈ fs ++ []) (fun k _ h => by simpa using h)) hg5 hat5 (by simp) List.nodup_nil; obtain ⟨W6, f6, P6, hmo6, ht6, hk9⟩ := Hput.out w5 _ _ _ hrow5 ht5; have P6' : (Instr.mapUpdate 131 (.map (some m)) (.string e.item) (.slice A5 (l.length + 1) c5)).run Tryz.prog w5 = .ok () W6 := P6; have hk5 : Keeps (fun g => g = b ∨ g = g3 ∨ g = g6) Q w5 := Keeps.grown (by repeat (first | with_reducible exact Keeps.refl _ _ | with_reducible refine Keeps.drew ?_ | with_reducible refine Keeps.alloc ?_ _)) hg5 (fun g hv _ hg => Hfree.out g hg (Hvf.out g (List.mem_append.2 (.inl (by rw [hv]; simp))))); have hk6 : Keeps (fun g => g = b ∨ g = g3 ∨ g = g6) Q W6 := hk5.then_ hk9 (fun g _ hg e => Hfree.out g hg (by rw [e]; exact Hmr.out))
          refine hK.out _ _ (by exact HS.out _ (by repeat (first | with_reducible exact Keeps.refl _ _ | with_reducible exact hk5 | with_reducible exact hk6 | with_reducible refine Keeps.drew ?_ | with_reducible refine Keeps.alloc ?_ _))) (fun hHeld => ?_)
          clear hK K
          try simp only [Act.put, List.setIfInBounds_toArray, List.set_cons_zero, List.set_cons_succ]
          refine wpAnyH_ready (rs := [10]) (by kernel_rfl) (by simp) ?_
          refine (AllReadyH.cons (o := { dst := none, op := Go.Op.mapUpdate 131 (Go.Operand.tmp 110) (Go.Operand.tmp 112) (Go.Operand.tmp 116), type := 0, pos := "catalog.go:61", after := #[{ on := 3, ground := Go.Ground.data }, { on := 5, ground := Go.Ground.data }, { on := 9, ground := Go.Ground.data }, { on := 9, ground := Go.Ground.chain }, { on := 0, ground := Go.Ground.phase }, { on := 1, ground := Go.Ground.phase }, { on := 2, ground := Go.Ground.phase }, { on := 3, ground := Go.Ground.phase }, { on := 4, ground := Go.Ground.phase }, { on := 5, ground := Go.Ground.phase }, { on := 6, ground := Go.Ground.phase }, { on := 7, ground := Go.Ground.phase }, { on := 8, ground := Go.Ground.phase }, { on := 9, ground := Go.Ground.phase }], guard := none }) rfl (fun K hK => ?_) AllReadyH.nil)
          go_simp
          refine hK.out _ _ (by exact HS.out _ (by repeat (first | with_reducible exact Keeps.refl _ _ | with_reducible exact hk5 | with_reducible exact hk6 | with_reducible refine Keeps.drew ?_ | with_reducible refine Keeps.alloc ?_ _))) (fun hHeld => ?_)
          clear hK K
          try simp only [List.setIfInBounds_toArray, List.set_cons_zero, List.set_cons_succ]
          refine wpAnyH_done (by kernel_rfl) ?_ _
          have HQe := HQs.out
          have Hfin := Lib.hid (Hturn.out W6 f6 (catPut c e) (by show MapOf _ _ _ W6 m f6 (putM (fun a b : ByteArray => a == b) c.things e.item (rowS c.things e.item ++ [stNext (stLast (rowS c.things e.item) e.item) e])); rw [← Hl.out, ← Hs.out, ← HQe]; exact hmo6) ht6 rfl)
          clear hHeld hown5 hg5 hat5 hrow5 ht5 P6 P6' hmo6 ht6 hk9 hk5 hk6 HQe
          go_wp2_with fail
          go_ret
          obtain ⟨fp9, hc9, ht9⟩ := Hfin.out
          exact ⟨rfl, fp9, hc9, HT1.out.trans ht9⟩
end Go.Proofs.YtpkkkhgmkndpdaaGreatDoor
