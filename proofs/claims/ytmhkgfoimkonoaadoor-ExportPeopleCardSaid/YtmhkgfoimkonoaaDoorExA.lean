/-
  What is proved here: a strings.Builder is written to, byte by byte and text by text. Conditions: at most 2^30 bytes in all.
  the program's All and Person: the text of events. Conditions: at most a hundred thousand events, of texts of at most a million bytes; the library's variables, and the names of the kinds, hold what their text lays.
-/
import Derived.Test.YtmhkgfoimkonoaaDoorBase
import Derived.Shelf.Strings.BuilderK
import Derived.Test.YtmhkgfoimkonoaaDoorProg
import Derived.Test.YtmhkgfoimkonoaaDoorExO
import Derived.Test.YtmhkgfoimkonoaaDoorShelfB
import Derived.Test.YtmhkgfoimkonoaaDoorEvMay
namespace Go.Proofs.YtmhkgfoimkonoaaDoor
open Go Go.RowKit Go.Proofs
theorem sb_size : (Tryd.prog.info? 58).map (·.size) = some 2 := by kernel_rfl
theorem sb_lies : liesAt Tryd.prog Tryd.prog.depth 58 (2 / Tryd.prog.cellsOf 58) 0 58 1 = true := by kernel_rfl
theorem sb_byte : (Tryd.prog.info? 5).map (fun i => (i.zero, i.size, i.bytes)) = some (some (.int .u8 0), 1, 1) := by kernel_rfl
set_option maxHeartbeats 1000000 in
set_option maxRecDepth 100000 in
theorem sb_copy_used (b : Nat) (w : World) (h0 : w.cell? ⟨b, 0, none⟩ = some (.pointer (some ⟨b, 0, none⟩))) :
    Calls Tryd.prog 63 #[.pointer (some ⟨b, 0, none⟩)] w fun e w' => e = .returned (.tuple #[]) ∧ w' = w := by
  obtain ⟨j, hj, _⟩ := Option.map_eq_some_iff.1 sb_size
  go_enter Tryd.func63, Tryd.ntmps63
  go_wp2
  rw [Lib.run_neq_ptr_same w _ Tryd.underlying56 hj]
  go_wp2
  go_end0
  exact ⟨rfl, rfl⟩
set_option maxHeartbeats 1000000 in
set_option maxRecDepth 100000 in
theorem sb_copy_fresh (b : Nat) (w : World) (h0 : w.cell? ⟨b, 0, none⟩ = some (.pointer none)) (hsh : w.shape? b = some (58, 2)) (hfz : w.frozen? ⟨b, 0, none⟩ = false) :
    Calls Tryd.prog 63 #[.pointer (some ⟨b, 0, none⟩)] w fun e w' => e = .returned (.tuple #[]) ∧ w' = w.setCell ⟨b, 0, none⟩ (.pointer (some ⟨b, 0, none⟩)) := by
  obtain ⟨j, hj, hjs⟩ := Option.map_eq_some_iff.1 sb_size
  go_enter Tryd.func63, Tryd.ntmps63
  go_wp2
  rw [Lib.run_to_unsafe w ⟨b, 0, none⟩ Tryd.underlying56 Tryd.underlying109 hj (by rw [hjs]; decide) hsh (Nat.zero_lt_succ 1)]
  simp only [Result.andThen]
  rw [Oper.upon_value]
  go_wp2
  rw [run_callFunc_extern Tryd.func85 (by kernel_rfl) (by kernel_rfl) (by kernel_rfl) (e := Extern.AbiNoEscape.same) (by kernel_rfl)]
  rw [Lib.run_noEscape]
  simp only [Result.andThen]
  rw [Oper.upon_value]
  go_wp2
  rw [Lib.run_from_unsafe w ⟨b, 0, none⟩ Tryd.underlying109 Tryd.underlying56 hj hsh sb_lies]
  simp only [Result.andThen]
  rw [Oper.upon_value]
  go_wp2
  go_end0
  exact ⟨rfl, rfl⟩
/-- A builder: what it holds. -/
def Sb (w : World) (B b : Nat) (bs : List Value) : Prop := Lib.IsBuilderF 58 5 B b bs w
def SbPost (B b : Nat) (bs : List Value) (w w' : World) : Prop := Sb w' B b bs ∧ Below B w w' ∧ Lib.OthersKept 5 (some b) w w'
theorem sb_copy (B b : Nat) (bs : List Value) (w : World) (h : Sb w B b bs) :
    Calls Tryd.prog 63 #[.pointer (some ⟨b, 0, none⟩)] w fun e w' => e = .returned (.tuple #[]) ∧ (Lib.BuilderAtF 58 5 B b (.pointer (some ⟨b, 0, none⟩)) bs w' ∧ Below B w w' ∧ Lib.OthersKept 5 (some b) w w') := by
  rcases h with h | h
  · refine (sb_copy_fresh b w h.cell0 h.shape h.frozen0).mono ?_
    rintro e w' ⟨rfl, rfl⟩
    exact ⟨rfl, h.used _, (Below.refl B w).setCell (p := ⟨b, 0, none⟩) h.1 _, (Lib.OthersKept.refl _ _ w).setCell ⟨b, 0, none⟩ rfl _⟩
  · refine (sb_copy_used b w h.cell0).mono ?_
    rintro e w' ⟨rfl, rfl⟩
    exact ⟨rfl, h, Below.refl B _, Lib.OthersKept.refl _ _ _⟩
theorem sb_ne : 58 ≠ 5 := by decide
set_option maxHeartbeats 2000000 in
set_option maxRecDepth 100000 in
theorem sb_WriteByte (B b : Nat) (bs : List Value) (c : Int) (w : World) (h : Sb w B b bs) (hlen : bs.length + 1 ≤ 140737488355328) (hBw : B ≤ w.heap.size) :
    Calls Tryd.prog 39 #[.pointer (some ⟨b, 0, none⟩), .int .u8 c] w fun e w' => e = .returned .nilIface ∧ SbPost B b (bs ++ [.int .u8 c]) w w' := by
  obtain ⟨i0, hi, hz0, hz1, hz2⟩ := info_parts sb_byte
  go_enter Tryd.func39, Tryd.ntmps39
  go_wp2_with (go_at_call 63; refine (sb_copy B b bs _ h).mono ?_)
  rintro e w1 ⟨rfl, h1, hb1, hk1⟩
  obtain ⟨hB, v, hbk, hown, hne⟩ := h1
  have c0 : w1.cell? ⟨b, 0, none⟩ = some (.pointer (some ⟨b, 0, none⟩)) := by rw [Lib.cell_of_heap hbk]; rfl
  have c1 : w1.cell? ⟨b, 1, none⟩ = some v := by rw [Lib.cell_of_heap hbk]; rfl
  go_wp2_with (at_builtin; refine wpList_append_ownF _ rfl _ _ 47 rfl B 5 i0 (.int .u8 0) 1 1 Tryd.underlying47 hi hz0 hz1 hz2 rfl (by decide) _ _ _ rfl (hown.alloc _) ⟨w1.heap.size, 0, none⟩ 1 1 [.int .u8 c] rfl rfl ?c1 ?c2 ?c3 ?c4 ?c5 ?_)
  case c1 =>
    intro j u hj
    match j, hj with
    | 0, hj => simp at hj; subst hj; simp [Addr.add]
  case c2 => intro u hu; simp at hu; subst hu; rfl
  case c3 => unfold maxLen; omega
  case c4 => omega
  case c5 => have := hb1.size; simp; omega
  intro v' w2 hown' hgrow _
  have hlt : b < w1.heap.size := by
    rcases Nat.lt_or_ge b w1.heap.size with h' | h'
    · exact h'
    · simp [Array.getElem?_eq_none h'] at hbk
  have hb2 : w2.heap[b]? = some (.cells #[.pointer (some ⟨b, 0, none⟩), v] 58 (0, 0)) := by
    rw [hgrow.block b (by simp; omega) (fun e => hne e.symm), Lib.alloc_old w1 _ b hlt]
    exact hbk
  have d0 : w2.cell? ⟨b, 0, none⟩ = some (.pointer (some ⟨b, 0, none⟩)) := by rw [Lib.cell_of_heap hb2]; rfl
  have d1 : w2.cell? ⟨b, 1, none⟩ = some v := by rw [Lib.cell_of_heap hb2]; rfl
  have f1 : w2.frozen? ⟨b, 1, none⟩ = false := Lib.frozen_of_heap hb2 1
  obtain ⟨g, cap, rfl⟩ : ∃ g cap, v' = .slice (some ⟨g, 0, none⟩) (bs.length + 1) cap := by
    rcases hown'.2 with ⟨_, h0⟩ | ⟨g, cap, cur, fz, hv, _⟩
    · omega
    · exact ⟨g, cap, hv⟩
  go_wp2
  go_ret
  refine ⟨rfl, .inr ?_, ?_, ((hk1.alloc _).grown hgrow (Lib.ownsRowF_kind (hown.alloc _))).setCell ⟨b, 1, none⟩ rfl _⟩
  · exact Lib.BuilderAtF.put (T := 58) (e := 5) hB hb2 (bs' := bs ++ [.int .u8 c]) (by simpa using hown') sb_ne
  · exact ((hb1.alloc (by have := hb1.size; omega) _).grown hgrow (by have := hb1.size; simp; omega) (fun k hk => (hown.lt k hk).1)).setCell (p := ⟨b, 1, none⟩) hB _
set_option maxHeartbeats 2000000 in
set_option maxRecDepth 100000 in
theorem sb_WriteString (B b : Nat) (bs : List Value) (s : ByteArray) (w : World) (h : Sb w B b bs) (hlen : bs.length + s.size ≤ 140737488355328) (hBw : B ≤ w.heap.size) :
    Calls Tryd.prog 38 #[.pointer (some ⟨b, 0, none⟩), .string s] w fun e w' => e = .returned (.tuple #[.int .i64 s.size, .nilIface]) ∧ SbPost B b (bs ++ Lib.strCells s) w w' := by
  obtain ⟨i0, hi, hz0, hz1, hz2⟩ := info_parts sb_byte
  go_enter Tryd.func38, Tryd.ntmps38
  go_wp2_with (go_at_call 63; refine (sb_copy B b bs _ h).mono ?_)
  rintro e w1 ⟨rfl, h1, hb1, hk1⟩
  obtain ⟨hB, v, hbk, hown, hne⟩ := h1
  have c0 : w1.cell? ⟨b, 0, none⟩ = some (.pointer (some ⟨b, 0, none⟩)) := by rw [Lib.cell_of_heap hbk]; rfl
  have c1 : w1.cell? ⟨b, 1, none⟩ = some v := by rw [Lib.cell_of_heap hbk]; rfl
  go_wp2_with (at_builtin; refine Lib.wpList_append_own_stringF _ rfl _ _ 47 9 rfl B 5 i0 Tryd.underlying47 Tryd.underlying9 hi hz0 hz1 hz2 _ _ _ rfl hown s rfl ?c3 ?c4 ?c5 ?_)
  case c3 => unfold maxLen; omega
  case c4 => omega
  case c5 => have := hb1.size; omega
  intro v' w2 hown' hgrow _
  have hlt : b < w1.heap.size := by
    rcases Nat.lt_or_ge b w1.heap.size with h' | h'
    · exact h'
    · simp [Array.getElem?_eq_none h'] at hbk
  have hb2 : w2.heap[b]? = some (.cells #[.pointer (some ⟨b, 0, none⟩), v] 58 (0, 0)) := by
    rw [hgrow.block b hlt (fun e => hne e.symm)]
    exact hbk
  have d0 : w2.cell? ⟨b, 0, none⟩ = some (.pointer (some ⟨b, 0, none⟩)) := by rw [Lib.cell_of_heap hb2]; rfl
  have d1 : w2.cell? ⟨b, 1, none⟩ = some v := by rw [Lib.cell_of_heap hb2]; rfl
  have f1 : w2.frozen? ⟨b, 1, none⟩ = false := Lib.frozen_of_heap hb2 1
  obtain ⟨ao, n', cap, rfl⟩ : ∃ ao n' cap, v' = .slice ao n' cap := by
    rcases hown'.2 with ⟨hv, _⟩ | ⟨g, cap, cur, fz, hv, _⟩
    · exact ⟨_, _, _, hv⟩
    · exact ⟨_, _, _, hv⟩
  go_wp2
  go_ret2
  refine ⟨rfl, .inr ?_, ?_, (hk1.grown hgrow (Lib.ownsRowF_kind hown)).setCell ⟨b, 1, none⟩ rfl _⟩
  · exact Lib.BuilderAtF.put (T := 58) (e := 5) hB hb2 (bs' := bs ++ Lib.strCells s) (by simpa [Lib.strCells_length] using hown') sb_ne
  · exact (hb1.grown hgrow (by have := hb1.size; omega) (fun k hk => (hown.lt k hk).1)).setCell (p := ⟨b, 1, none⟩) hB _
end Go.Proofs.YtmhkgfoimkonoaaDoor
namespace Go.Proofs.YtmhkgfoimkonoaaDoor
open Go Go.RowKit Go.Proofs
attribute [local go_sem ↓] Go.wp_at_zero Go.wp_at_succ

/-! ### a builder, and what else stands -/
theorem Sb.new (w : World) : Sb (w.alloc (.cells #[.pointer none, .slice none 0 0] 58)) w.heap.size w.heap.size [] := Lib.IsBuilderF.of (Lib.fresh_isBuilder _ _ w)
theorem Sb.ext {w w' : World} {B b : Nat} {bs : List Value} (h : Sb w B b bs) (hx : Ext w w') : Sb w' B b bs := by
  have key : ∀ p, Lib.BuilderAtF 58 5 B b p bs w → Lib.BuilderAtF 58 5 B b p bs w' := by
    rintro p ⟨hB, v, hb, ⟨hl, ho⟩, hne⟩
    refine ⟨hB, v, hx.blk hb, ⟨hl, ?_⟩, hne⟩
    rcases ho with h0 | ⟨g, cap, cur, fz, hv, hbg, hg, r⟩
    · exact .inl h0
    · exact .inr ⟨g, cap, cur, fz, hv, hbg, hx.blk hg, r⟩
  exact h.elim (fun h => .inl (key _ h)) (fun h => .inr (key _ h))
theorem Sb.blk {w : World} {B b : Nat} {bs : List Value} (h : Sb w B b bs) : ∃ C, w.heap[b]? = some (.cells C 58) := by
  rcases h with ⟨_, v, hb, _⟩ | ⟨_, v, hb, _⟩ <;> exact ⟨_, hb⟩
theorem EvsAt.others {base : Nat} {w w' : World} {A : Option Addr} {n : Nat} {l : List Ev} {b : Nat} (h : EvsAt base w A n l) (hk : Lib.OthersKept 5 (some b) w w') (hb : ∃ C, w.heap[b]? = some (.cells C 58)) : EvsAt base w' A n l := by
  refine ⟨h.1, h.2.imp id fun ⟨g, S, e, hbg, C, hg, hs, hc⟩ => ⟨g, S, e, hbg, C, ?_, hs, hc⟩⟩
  refine hk g _ hg (fun e9 => ?_) (fun C' fz e9 => by injection e9 with _ h9 _; exact absurd h9 (by decide))
  injection e9 with e9
  obtain ⟨C', hb'⟩ := hb
  rw [← e9, hg] at hb'
  injection hb' with hb'
  injection hb' with _ h9 _
  exact absurd h9 (by decide)
theorem Ext.then_below {w a b : World} (h : Ext w a) (k : Below w.heap.size a b) : Ext w b := ⟨k.os.trans h.os, k.tape.trans h.tape, k.output.trans h.output, Nat.le_trans h.size k.size, fun i hi _ => (k.block i hi).trans (h.block i hi trivial)⟩
theorem strCells_list (s : ByteArray) : Lib.strCells s = Lib.byteCells s.data.toList := rfl
theorem byteCells_app (a b : List UInt8) : Lib.byteCells (a ++ b) = Lib.byteCells a ++ Lib.byteCells b := by simp [Lib.byteCells]
set_option maxRecDepth 100000 in
set_option maxHeartbeats 8000000 in
theorem ex_All (A : Option Addr) (n c : Nat) (l : List Ev) (ok : Nat → Prop) (w : World) (hs : Sl evR ok w A n l) (hn : n ≤ 100000) (hsm : ∀ e ∈ l, EvSm e) (hv : Vars w) :
    Calls Tryd.prog 17 #[.slice A n c] w fun r w' => r = .returned (.string (textB (allE l))) ∧ Ext w w' := by
  have Hs := Lib.hid hs
  have Hl := Lib.hid hs.1
  have Hsm := Lib.hid hsm
  have Hv := Lib.hid hv
  obtain ⟨i0, hi0, hz0, hz1, hz2⟩ := info_part3 info_apiEv
  clear hs hsm hv
  go_enter Tryd.func17, Tryd.ntmps17
  go_wp2_with fail
  go_loopw [3, 11] (fun v i wr => ∃ (k q : Nat) (B : Option Addr) (cb : Nat), k ≤ n ∧ q ≤ k ∧ i = .int .i64 k ∧ v = .slice B q cb ∧ Own evR 30 (fun _ => True) wr w.heap.size (.slice B q cb) q ((l.take k).filter mayE) ∧ Ext w wr) (fun _ i _ => n - (intOf i).toNat)
  case atStart => exact ⟨0, 0, none, 0, Nat.zero_le _, Nat.le_refl _, rfl, rfl, Own.nil_, Keeps.refl _ _⟩
  case round =>
    obtain ⟨k, q, B, cb, hk, hqk, rfl, rfl, hown, hx⟩ := hrel
    have Hown := Lib.hid hown
    have Hx := Lib.hid hx
    have hsz := hx.size
    clear hown hx
    by_cases hlt : k < n
    · obtain ⟨b, o, e, rfl, hb, _, he, d0, d1, d2, d3, d4, d5, d6, d7⟩ := (Hs.out.ext Hx.out).ev hlt
      have j0 : (0 : Int) ≤ (k : Int) := by omega
      have j1 : (k : Int) < (n : Int) := by omega
      have Hf := Lib.hid (filter_snoc (p := mayE) he)
      have Hm := Lib.hid (fun (W : World) (h : Ext wr W) => ev_May e W (Hsm.out e (List.mem_of_getElem? he)) (Hv.out.mx.ext (Hx.out.trans h)))
      clear he
      go_wp2_with fail
      refine (Hm.out _ (by repeat (first | with_reducible exact Keeps.refl _ _ | with_reducible refine Keeps.drew ?_ | with_reducible refine Keeps.drewN ?_ _ | with_reducible refine Keeps.alloc ?_ _))).mono ?_
      rintro _ w2 ⟨rfl, hx2⟩
      have Hxx := Lib.hid (show Ext wr w2 from Keeps.trans ((Keeps.refl _ _).alloc _) hx2)
      have g7 := hx2.blk (blk_new wr _)
      have q0 := blk_cell g7 0 rfl
      have q1 := blk_cell g7 1 rfl
      have q2 := blk_cell g7 2 rfl
      have q3 := blk_cell g7 3 rfl
      have q4 := blk_cell g7 4 rfl
      have q5 := blk_cell g7 5 rfl
      have q6 := blk_cell g7 6 rfl
      have q7 := blk_cell g7 7 rfl
      clear d0 d1 d2 d3 d4 d5 d6 d7 hx2 g7
      cases hm : mayE e
      · have Hst := Lib.hid (show (l.take (k + 1)).filter mayE = (l.take k).filter mayE by rw [Hf.out, hm]; simp)
        go_wp2_with fail
        go_roundw
        case rel => exact ⟨k + 1, q, B, cb, by omega, by omega, by go_num, rfl, by rw [Hst.out]; exact Hown.out.ext Hxx.out, Hx.out.trans Hxx.out⟩
        case measure => simp [intOf]; omega
      · have Hst := Lib.hid (show (l.take (k + 1)).filter mayE = (l.take k).filter mayE ++ [e] by rw [Hf.out, hm]; rfl)
        go_wp2_with (at_builtin; refine wpList_append_Own (ok := fun _ => True) (R := evR) _ rfl (.tmp 17) (.tmp 19) 22 rfl 30 i0 _ 96 w.heap.size Tryd.underlying22 hi0 hz0 hz1 hz2 rfl (by decide) rfl (Hown.out.ext (by repeat (first | with_reducible exact Hxx.out | with_reducible exact Keeps.refl _ _ | with_reducible refine Keeps.drew ?_ | with_reducible refine Keeps.drewN ?_ _ | with_reducible refine Keeps.alloc ?_ _))) _ 1 1 [e] rfl (Srcs.one_new rfl (by first | exact blk_new _ _ | exact blk_new_ _ _ (by simp)) rfl) (by omega) (by decide) (by have := Hxx.out.size; first | omega | (simp; omega)) ?_; intro A8 c8 w8 hown8 hg8 hat8; have Hown8 := Lib.hid hown8; have Hx8 := Lib.hid (show Ext w w8 from Keeps.grown (by repeat (first | with_reducible exact Hx.out.trans Hxx.out | with_reducible exact Keeps.refl _ _ | with_reducible refine Keeps.drew ?_ | with_reducible refine Keeps.drewN ?_ _ | with_reducible refine Keeps.alloc ?_ _)) hg8 (fun g hg hl => by have := (Hown.out.lt g hg).1; omega)); clear hown8 hg8 hat8)
        go_roundw
        case rel => exact ⟨k + 1, q + 1, A8, c8, by omega, by omega, by go_num, rfl, by rw [Hst.out]; exact Hown8.out, Hx8.out⟩
        case measure => simp [intOf]; omega
    · obtain rfl : k = n := by omega
      have hown9 := Hown.out
      rw [List.take_of_length_le (Nat.le_of_eq Hl.out)] at hown9
      obtain ⟨W0, hW0⟩ : ∃ W0, W0 = wr := ⟨_, rfl⟩
      rw [← hW0] at hown9 Hx hsz ⊢
      clear hW0 Hown
      have Hsl := Lib.hid (hown9.evSl)
      obtain ⟨L, hL⟩ : ∃ L, L = joinE (l.filter mayE) := ⟨_, rfl⟩
      have HL := Lib.hid (show allE l = L from hL.symm)
      have Hmay := Lib.hid (show ∀ e ∈ L, mayE e = true by rw [hL]; exact join_may (filter_may l))
      have Hjn := Lib.hid (fun (W : World) (b : Nat) (hb : W.cell? ⟨b, 0, none⟩ = some (.slice B q cb)) (hx : Ext W0 W) => show Calls Tryd.prog 37 #[.slice (some ⟨b, 0, none⟩) 1 1] W (fun r w' => ∃ A', r = .returned (.slice A' L.length L.length) ∧ EvsAt W.heap.size w' A' L.length L ∧ Ext W w') by
        rw [hL]; exact sh_Join b 0 B q cb _ _ W hb (Hsl.out.ext hx) (by omega) (filter_may l) (Hv.out.ext (Hx.out.trans hx)))
      have hLl : L.length ≤ 100000 := by
        have h1 := once_len (l.filter mayE)
        have h2 : L.length = (onceL (l.filter mayE)).length := by rw [hL]; exact (sortL_ok lessE_swo _).2.len
        have h3 := hown9.1
        omega
      clear hL hown9
      have hbk := blk_cell (blk_new_ (W0.alloc (.cells #[.pointer none, .slice none 0 0] 58)) (.cells #[.slice B q cb] 22) (g := W0.heap.size + 1) (by simp)) 0 rfl
      have Hbk := Lib.hid hbk
      clear hbk
      go_wp2_with fail
      refine (Hjn.out _ (W0.heap.size + 1) Hbk.out (by repeat (first | with_reducible exact Keeps.refl _ _ | with_reducible refine Keeps.drew ?_ | with_reducible refine Keeps.drewN ?_ _ | with_reducible refine Keeps.alloc ?_ _))).mono ?_
      rintro _ w3 ⟨A3, rfl, hev3, hx3⟩
      have Hsb := Lib.hid ((Sb.new W0).ext (Keeps.trans ((Keeps.refl _ _).alloc _) hx3))
      have Hw3 := Lib.hid (show Ext W0 w3 from Keeps.trans (((Keeps.refl _ _).alloc _).alloc _) hx3)
      have Hev := Lib.hid (hev3.le (base' := W0.heap.size) (by simp; omega))
      obtain ⟨bb, hbb⟩ : ∃ bb, bb = W0.heap.size := ⟨_, rfl⟩
      rw [← hbb] at Hsb Hev
      have Hbb := Lib.hid hbb
      obtain ⟨m, hm⟩ : ∃ m, m = L.length := ⟨_, rfl⟩
      rw [← hm] at Hev hLl
      have HLl := Lib.hid hm
      try rw [← hbb]
      try rw [← hm]
      clear hbb hev3 hx3 hm Hjn Hbk Hsl
      go_wp2_with fail
      go_loopw [26] (fun i wr => ∃ k : Nat, k ≤ m ∧ i = .int .i64 k ∧ Sb wr bb bb (Lib.byteCells (textL (L.take k))) ∧ EvsAt bb wr A3 m L ∧ Ext W0 wr) (fun i _ => m - (intOf i).toNat)
      case atStart => exact ⟨0, Nat.zero_le _, rfl, Hsb.out, Hev.out, Hw3.out⟩
      case round =>
        obtain ⟨k, hk, rfl, hsb, hev, hx⟩ := hrel
        have Hsb2 := Lib.hid hsb
        have Hev2 := Lib.hid hev
        have Hx2 := Lib.hid hx
        clear hsb hev hx Hsb Hev Hw3
        by_cases hlt : k < m
        · obtain ⟨b, o, e, rfl, hb, _, he, d0, d1, d2, d3, d4, d5, d6, d7⟩ := Hev2.out.sl.ev hlt
          have j0 : (0 : Int) ≤ (k : Int) := by omega
          have j1 : (k : Int) < (m : Int) := by omega
          have hme := Hmay.out e (List.mem_of_getElem? he)
          have Hst := Lib.hid (textL_snoc he)
          have h1 : (fmtE e).size ≤ 999999 := may_fmt_size hme
          have h2 : (Lib.byteCells (textL (L.take k))).length ≤ 100000000000 := by
            have := textL_len (l := L.take k) (fun e he => may_fmt_size (Hmay.out e (List.mem_of_mem_take he)))
            rw [Lib.byteCells_length]
            rw [List.length_take] at this
            omega
          have Cf := Lib.hid (fun (W : World) (h : Ext W0 W) => ev_Format_yes e W (evSm_may hme) (Hv.out.ext (Hx.out.trans h)) hme)
          obtain ⟨F, hF⟩ : ∃ F, F = fmtE e := ⟨_, rfl⟩
          obtain ⟨bs, hbs⟩ : ∃ bs, bs = Lib.byteCells (textL (L.take k)) := ⟨_, rfl⟩
          rw [← hF] at Cf Hst h1
          have Hst2 := Lib.hid (show Lib.byteCells (textL (L.take (k + 1))) = (bs ++ Lib.strCells F) ++ [.int .u8 10] by rw [Hst.out, byteCells_app, byteCells_app, hbs, ← strCells_list, List.append_assoc]; rfl)
          rw [← hbs] at Hsb2 h2
          clear he hme hF hbs Hst
          go_wp2_with fail
          refine (Cf.out _ (Keeps.alloc Hx2.out _)).mono ?_
          rintro _ w5 ⟨rfl, hx5⟩
          have hx5' := Keeps.trans ((Keeps.refl (fun _ => True) wr).alloc _) hx5
          have Hx5 := Lib.hid (Hx2.out.trans hx5')
          have hbw : bb ≤ w5.heap.size := by rw [Hbb.out]; exact Hx5.out.size
          have Hws := Lib.hid (sb_WriteString bb bb bs F w5 (Hsb2.out.ext hx5') (by omega) hbw)
          have Hev5 := Lib.hid (Hev2.out.ext hx5')
          have Hbk5 := Lib.hid (Hsb2.out.ext hx5').blk
          clear hx5 hx5' d0 d1 d2 d3 d4 d5 d6 d7
          go_wp2_with fail
          refine Hws.out.mono ?_
          rintro _ w6 ⟨rfl, hs6, hb6, ho6⟩
          have Hx6 := Lib.hid (show Ext W0 w6 from Ext.then_below Hx5.out (by rw [← Hbb.out]; exact hb6))
          have Hev6 := Lib.hid (Hev5.out.others ho6 Hbk5.out)
          have hl6 : (bs ++ Lib.strCells F).length ≤ 100001000000 := by rw [List.length_append, Lib.strCells_length]; omega
          have Hwb := Lib.hid (sb_WriteByte bb bb (bs ++ Lib.strCells F) 10 w6 hs6 (by omega) (by rw [Hbb.out]; exact Hx6.out.size))
          have Hbk6 := Lib.hid hs6.blk
          clear hs6 hb6 ho6
          go_wp2_with fail
          refine Hwb.out.mono ?_
          rintro _ w7 ⟨rfl, hs7, hb7, ho7⟩
          have Hx7 := Lib.hid (show Ext W0 w7 from Ext.then_below Hx6.out (by rw [← Hbb.out]; exact hb7))
          have Hev7 := Lib.hid (Hev6.out.others ho7 Hbk6.out)
          rw [← Hst2.out] at hs7
          have Hs7 := Lib.hid hs7
          clear hs7 hb7 ho7
          go_wp2_with fail
          go_roundw
          case rel => exact ⟨k + 1, by omega, by go_num, Hs7.out, Hev7.out, Hx7.out⟩
          case measure => simp [intOf]; omega
        · obtain rfl : k = m := by omega
          have hsb9 := Hsb2.out
          rw [HLl.out, List.take_of_length_le (Nat.le_refl _)] at hsb9
          have Hstr := Lib.hid (Tryd.Builder_String_any_k bb bb (textL L) wr hsb9 (by rw [Hbb.out]; exact Hx2.out.size))
          clear hsb9
          go_wp2_with fail
          refine Hstr.out.mono ?_
          rintro _ w8 ⟨rfl, _, hb8, _⟩
          have Hx8 := Lib.hid (show Ext W0 w8 from Ext.then_below Hx2.out (by rw [← Hbb.out]; exact hb8))
          clear hb8
          go_wp2_with fail
          go_ret
          exact ⟨by rw [HL.out]; rfl, Hx.out.trans Hx8.out⟩
theorem eq_nil_text (s : ByteArray) : (s.toList == ([] : List UInt8)) = noneB s := by
  unfold noneB
  cases s.toList <;> rfl
set_option maxRecDepth 100000 in
set_option maxHeartbeats 8000000 in
theorem ex_Person_none (A : Option Addr) (n c : Nat) (w : World) :
    Calls Tryd.prog 23 #[.string ⟨#[]⟩, .slice A n c] w fun r w' => r = .returned (.string ⟨#[]⟩) ∧ Ext w w' := by
  go_enter Tryd.func23, Tryd.ntmps23
  go_wp2_with fail
  go_ret
  exact ⟨rfl, Keeps.refl _ _⟩
set_option maxRecDepth 100000 in
set_option maxHeartbeats 8000000 in
theorem ex_Person (person : ByteArray) (A : Option Addr) (n c : Nat) (l : List Ev) (ok : Nat → Prop) (w : World) (hp : noneB person = false) (hs : Sl evR ok w A n l) (hn : n ≤ 100000) (hsm : ∀ e ∈ l, EvSm e) (hv : Vars w) :
    Calls Tryd.prog 23 #[.string person, .slice A n c] w fun r w' => r = .returned (.string (textB (allE (l.filter fun e => e.person == person)))) ∧ Ext w w' := by
  have Hs := Lib.hid hs
  have Hl := Lib.hid hs.1
  have Hsm := Lib.hid hsm
  have Hv := Lib.hid hv
  have hp' : (person.toList == ([] : List UInt8)) = false := by rw [eq_nil_text, hp]
  have hp2 : (person.toList == (⟨#[]⟩ : ByteArray).toList) = false := by rw [show (⟨#[]⟩ : ByteArray).toList = [] by rw [ByteArray.toList_eq]]; exact hp'
  obtain ⟨i0, hi0, hz0, hz1, hz2⟩ := info_part3 info_apiEv
  clear hs hsm hv hp
  go_enter Tryd.func23, Tryd.ntmps23
  go_wp2_with fail
  go_loopw [5, 12] (fun v i wr => ∃ (k q : Nat) (B : Option Addr) (cb : Nat), k ≤ n ∧ q ≤ k ∧ i = .int .i64 k ∧ v = .slice B q cb ∧ Own evR 30 (fun _ => True) wr w.heap.size (.slice B q cb) q ((l.take k).filter fun e => e.person == person) ∧ Ext w wr) (fun _ i _ => n - (intOf i).toNat)
  case atStart => exact ⟨0, 0, none, 0, Nat.zero_le _, Nat.le_refl _, rfl, rfl, Own.nil_, Keeps.refl _ _⟩
  case round =>
    obtain ⟨k, q, B, cb, hk, hqk, rfl, rfl, hown, hx⟩ := hrel
    have Hown := Lib.hid hown
    have Hx := Lib.hid hx
    have hsz := hx.size
    clear hown hx
    by_cases hlt : k < n
    · obtain ⟨b, o, e, rfl, hb, _, he, d0, d1, d2, d3, d4, d5, d6, d7⟩ := (Hs.out.ext Hx.out).ev hlt
      have j0 : (0 : Int) ≤ (k : Int) := by omega
      have j1 : (k : Int) < (n : Int) := by omega
      have Hf := Lib.hid (filter_snoc (p := fun e => e.person == person) he)
      have Hxx := Lib.hid (Keeps.refl (fun _ => True) wr)
      have hpe : (e.person == person) = (e.person.toList == person.toList) := beq_toListBytes _ _
      clear he
      cases hm : (e.person == person)
      · rw [hm] at hpe
        have hpe' := hpe.symm
        have Hst := Lib.hid (show (l.take (k + 1)).filter (fun e => e.person == person) = (l.take k).filter (fun e => e.person == person) by rw [Hf.out, hm]; simp)
        clear hpe hm
        go_wp2_with fail
        go_roundw
        case rel => exact ⟨k + 1, q, B, cb, by omega, by omega, by go_num, rfl, by rw [Hst.out]; exact Hown.out.alloc _, Hx.out.alloc _⟩
        case measure => simp [intOf]; omega
      · rw [hm] at hpe
        have hpe' := hpe.symm
        have Hst := Lib.hid (show (l.take (k + 1)).filter (fun e => e.person == person) = (l.take k).filter (fun e => e.person == person) ++ [e] by rw [Hf.out, hm]; rfl)
        clear hpe hm
        go_wp2_with (at_builtin; refine wpList_append_Own (ok := fun _ => True) (R := evR) _ rfl (.tmp 20) (.tmp 22) 22 rfl 30 i0 _ 96 w.heap.size Tryd.underlying22 hi0 hz0 hz1 hz2 rfl (by decide) rfl (Hown.out.ext (by repeat (first | with_reducible exact Hxx.out | with_reducible exact Keeps.refl _ _ | with_reducible refine Keeps.drew ?_ | with_reducible refine Keeps.drewN ?_ _ | with_reducible refine Keeps.alloc ?_ _))) _ 1 1 [e] rfl (Srcs.one_new rfl (by first | exact blk_new _ _ | exact blk_new_ _ _ (by simp)) rfl) (by omega) (by decide) (by have := Hxx.out.size; first | omega | (simp; omega)) ?_; intro A8 c8 w8 hown8 hg8 hat8; have Hown8 := Lib.hid hown8; have Hx8 := Lib.hid (show Ext w w8 from Keeps.grown (by repeat (first | with_reducible exact Hx.out.trans Hxx.out | with_reducible exact Keeps.refl _ _ | with_reducible refine Keeps.drew ?_ | with_reducible refine Keeps.drewN ?_ _ | with_reducible refine Keeps.alloc ?_ _)) hg8 (fun g hg hl => by have := (Hown.out.lt g hg).1; omega)); clear hown8 hg8 hat8)
        go_roundw
        case rel => exact ⟨k + 1, q + 1, A8, c8, by omega, by omega, by go_num, rfl, by rw [Hst.out]; exact Hown8.out, Hx8.out⟩
        case measure => simp [intOf]; omega
    · obtain rfl : k = n := by omega
      have hown9 := Hown.out
      rw [List.take_of_length_le (Nat.le_of_eq Hl.out)] at hown9
      have Hal := Lib.hid (ex_All B q cb _ _ wr hown9.evSl (by omega) (fun e he => Hsm.out e (List.mem_filter.1 he).1) (Hv.out.ext Hx.out))
      clear hown9
      go_wp2_with fail
      refine Hal.out.mono ?_
      rintro _ w2 ⟨rfl, hx2⟩
      have Hx2 := Lib.hid (Hx.out.trans hx2)
      clear hx2
      go_wp2_with fail
      go_ret
      exact ⟨rfl, Hx2.out⟩
end Go.Proofs.YtmhkgfoimkonoaaDoor
