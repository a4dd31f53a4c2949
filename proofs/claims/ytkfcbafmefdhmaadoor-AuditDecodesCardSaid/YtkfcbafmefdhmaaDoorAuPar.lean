/-
  What is proved here: the program's parse of a line is the plain function's entry, or none. Conditions: texts of at most a million bytes; the library's variables hold what their text lays.
-/
import Derived.Test.YtkfcbafmefdhmaaDoorAuEnt
import Derived.Deep.RegionHeld3
import Derived.Deep.DeepCutAuto
import Derived.Stop.IfaceNil
namespace Go.Proofs.YtkfcbafmefdhmaaDoor
open Go Go.RowKit Go.Proofs
attribute [local go_sem ↓] Go.wp_at_zero Go.wp_at_succ
theorem Sl.strAt {ok : Nat → Prop} {w : World} {b o n : Nat} {l : List ByteArray} (h : Sl strR ok w (some ⟨b, o, none⟩) n l) {k : Nat} {s : ByteArray} (hk : l[k]? = some s) : w.cell? ⟨b, o + k, none⟩ = some (.string s) := by
  have hl : k < n := by rw [← h.1]; exact (List.getElem?_eq_some_iff.1 hk).1
  obtain ⟨b', o', e, _, _, hc⟩ := h.2 (by omega)
  injection e with e
  injection e with e1 e2 _
  subst e1 e2
  obtain ⟨xs, rfl, hx⟩ := hc k s hk
  have := hx 0 _ rfl
  simpa [strR] using this
def PeNo (w : World) (e : Ending) (w' : World) : Prop := ∃ x y z p A n c, e = .returned (.tuple #[.agg #[.int .i64 x, .int .i64 y, .string p, .slice A n c, .int .u64 z], .bool false]) ∧ Ext w w'
def PeYes (E : Ent) (w : World) (e : Ending) (w' : World) : Prop := ∃ A c, e = .returned (.tuple #[.agg #[.int .i64 E.off, .int .i64 E.now, .string E.person, .slice A E.items.length c, .int .u64 E.sum], .bool true]) ∧ E.items.length ≤ c ∧ Sl strR (fun k => w.heap.size ≤ k) w' A E.items.length E.items ∧ Ext w w'
set_option maxRecDepth 100000 in
set_option maxHeartbeats 4000000 in
theorem aud_parse_len (s : ByteArray) (w : World) (hs : s.size ≤ 999999) (hv : VarsA w) (hl : (partsL 32 s.data.toList).length ≠ 5) :
    Calls Tryd.prog 39 #[.string s] w (PeNo w) := by
  have HS := Lib.hid (fun (W : World) (h : Mx W) => str_Split s 32 W hs h)
  have hln : ((partsL 32 s.data.toList).map bts).length = (partsL 32 s.data.toList).length := List.length_map ..
  obtain ⟨n, hn⟩ : ∃ n, n = ((partsL 32 s.data.toList).map bts).length := ⟨_, rfl⟩
  have HS' := Lib.hid (fun (W : World) (h : Mx W) => (HS.out W h).mono (R' := fun e w' => ∃ A c, e = .returned (.slice A n c) ∧ Ext W w') (fun _ _ ⟨A, c, h1, _, h3⟩ => ⟨A, c, by rw [hn]; exact h1, h3⟩))
  have h8 : n ≠ 5 := by rw [hn, hln]; exact hl
  have h8' : ((n : Int) != 5) = true := by simp; omega
  have Hv := Lib.hid hv
  have hn0 : n ≤ 1000000 := by
    have := parts_len 32 s.data.toList
    have h4 : s.data.toList.length = s.size := by simp
    omega
  unfold bts at HS'
  clear HS hln hn hl h8 hv
  go_enter Tryd.func39, Tryd.ntmps39
  go_wp2_with (go_at_call 55; refine (HS'.out _ (Hv.out.mx.ext ((Keeps.refl _ _).alloc _))).mono ?_; rintro _ w1 ⟨A, c, rfl, hx1⟩; have hg1 := hx1.blk (blk_new w _); have hgl : w.heap.size < w1.heap.size := (Array.getElem?_eq_some_iff.1 hg1).1; have z0 := blk_cell hg1 0 rfl; have z1 := blk_cell hg1 1 rfl; have z2 := blk_cell hg1 2 rfl; have z3 := blk_cell hg1 3 rfl; have z4 := blk_cell hg1 4 rfl; have fz := blk_free hg1; have Hx1 := Lib.hid (Keeps.trans ((Keeps.refl (fun _ => True) w).alloc _) hx1); clear hx1 hg1)
  refine bodyPost_ret (v := .tuple #[.agg #[.int .i64 0, .int .i64 0, .string ⟨#[]⟩, .slice none 0 0, .int .u64 0], .bool false]) (by simp [results, Tryd.results39, go_sem, *]) rfl ⟨_, _, _, _, _, _, _, rfl, ?_⟩
  have hx := Hx1.out
  repeat (first | with_reducible exact hx | with_reducible exact Keeps.refl _ _ | with_reducible refine Keeps.drew ?_ | with_reducible refine Keeps.drewN ?_ _ | with_reducible refine Keeps.alloc ?_ _ | with_reducible refine Keeps.setCell ?_ (by first | (intro h; simp at h; done) | (intro _; simp; done) | (intro _; simp; omega) | (intro h; simp at h; omega)) _)
/-- What a conversion hands back beside its number: none, or an error. -/
def ErrV (b : Bool) (er : Value) : Prop := if b then er = .nilIface else ∃ t N, er = .iface t (.pointer (some ⟨N, 0, none⟩))
theorem ErrV.cells {b : Bool} {er : Value} (h : ErrV b er) : er.cells = #[er] := by
  unfold ErrV at h
  cases b
  · obtain ⟨t, N, rfl⟩ := h; rfl
  · rw [show er = .nilIface from h]; rfl
def okN {α : Type} : Lib.NumEnd α → Bool | .ok _ => true | _ => false
theorem atoi_any (s : ByteArray) (w : World) (hs : s.size ≤ 1000000) (hv : Er w) :
    Calls Tryd.prog 56 #[.string s] w fun e w' => ∃ v er, e = .returned (.tuple #[.int .i64 v, er]) ∧ Ext w w' ∧ ErrV (okN (Lib.atoiAll s.data.toList)) er ∧ (okN (Lib.atoiAll s.data.toList) = true → Lib.atoiAll s.data.toList = .ok v) := by
  cases h : Lib.atoiAll s.data.toList with
  | ok v =>
    refine (atoi_yes s v w hs h).mono ?_
    rintro _ w' ⟨rfl, hx⟩
    exact ⟨v, _, rfl, hx, rfl, fun _ => rfl⟩
  | range =>
    refine (atoi_no s w hs hv (fun v h9 => by rw [h] at h9; cases h9)).mono ?_
    rintro _ w' ⟨v, t, N, rfl, hx⟩
    exact ⟨v, _, rfl, hx, ⟨t, N, rfl⟩, fun h9 => by cases h9⟩
  | _ =>
    refine (atoi_no s w hs hv (fun v h9 => by rw [h] at h9; cases h9)).mono ?_
    rintro _ w' ⟨v, t, N, rfl, hx⟩
    exact ⟨v, _, rfl, hx, ⟨t, N, rfl⟩, fun h9 => by cases h9⟩
theorem parseU_any (s : ByteArray) (w : World) (hs : s.size ≤ 1000000) (hv : Er w) :
    Calls Tryd.prog 36 #[.string s, .int .i64 10, .int .i64 64] w fun e w' => ∃ v er, e = .returned (.tuple #[.int .u64 v, er]) ∧ Ext w w' ∧ ErrV (okN (Lib.parseUintB 64 s.data.toList)) er ∧ (okN (Lib.parseUintB 64 s.data.toList) = true → ∃ u : Nat, v = u ∧ Lib.parseUintB 64 s.data.toList = .ok u) := by
  cases h : Lib.parseUintB 64 s.data.toList with
  | ok u =>
    refine (parseU_yes s u w hs h).mono ?_
    rintro _ w' ⟨rfl, hx⟩
    exact ⟨u, _, rfl, hx, rfl, fun _ => ⟨u, rfl, rfl⟩⟩
  | range =>
    refine (parseU_no s w hs hv (fun v h9 => by rw [h] at h9; cases h9)).mono ?_
    rintro _ w' ⟨v, t, N, rfl, hx⟩
    exact ⟨v, _, rfl, hx, ⟨t, N, rfl⟩, fun h9 => by cases h9⟩
  | _ =>
    refine (parseU_no s w hs hv (fun v h9 => by rw [h] at h9; cases h9)).mono ?_
    rintro _ w' ⟨v, t, N, rfl, hx⟩
    exact ⟨v, _, rfl, hx, ⟨t, N, rfl⟩, fun h9 => by cases h9⟩
theorem run_index_any {P : Program} (t e : TypeId) (n : Nat) (cs : Array Value) (k : Nat) (v : Value) (h : P.underlying t = some (.array n e)) (hk : k < n) (hv : cs[k]? = some v) (w : World) (hz : (sizeOf e).run P w = .ok 1 w) (ha : (isAgg e).run P w = .ok false w) :
    (Instr.index t (.agg cs) (.int .i64 (k : Int))).run P w = .ok v w := by
  have hk2 : (0 : Int) ≤ (k : Int) ∧ (k : Int) < (n : Int) := ⟨by omega, by omega⟩
  simp [Instr.index, asIntOf, run_underlying h, hz, part, ha, hv, hk2]
  intro h9; omega
theorem idx_err (a b c : Value) (k : Nat) (v : Value) (hv : (#[a, b, c] : Array Value)[k]? = some v) (w : World) : (Instr.index 88 (.agg #[a, b, c]) (.int .i64 (k : Int))).run Tryd.prog w = .ok v w := by
  have hk : k < 3 := (Array.getElem?_eq_some_iff.1 hv).1
  exact run_index_any _ 66 3 _ k v Tryd.underlying88 hk hv w (by go_simp) (by go_simp)
end Go.Proofs.YtkfcbafmefdhmaaDoor
