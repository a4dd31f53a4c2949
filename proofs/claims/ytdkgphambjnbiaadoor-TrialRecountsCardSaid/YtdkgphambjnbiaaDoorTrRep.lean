/-
  What is proved here: the report of a trial without events: who is exposed, by arms. Conditions: at most a thousand trials and people.
-/
import Derived.Test.YtdkgphambjnbiaaDoorTrRows
import Derived.Laws.MakeOwn
namespace Go.Proofs.YtdkgphambjnbiaaDoor
open Go Go.RowKit Go.Proofs
attribute [local go_sem ↓] Go.wp_at_zero Go.wp_at_succ

theorem info_row : (Tryd.prog.info? 52).map (fun i => (i.zero, i.size, i.bytes)) = some (some (.agg #[.string ⟨#[]⟩, .int .i64 0, .int .i64 0, .int .i64 0]), 4, 40) := by kernel_rfl
theorem made_eq (n : Nat) : madeCells #[.string ⟨#[]⟩, .int .i64 0, .int .i64 0, .int .i64 0] (n * 4) = rowsC (List.replicate n ⟨⟨#[]⟩, 0, 0, 0⟩) := by
  apply Array.ext_getElem?
  intro q
  by_cases hq : q < n * 4
  · have hm : q % 4 < 4 := Nat.mod_lt _ (by decide)
    have hd : q / 4 < n := by omega
    have e : q = q / 4 * 4 + q % 4 := by omega
    have hz : (rwL ⟨⟨#[]⟩, 0, 0, 0⟩)[q % 4]? = some ((rwL ⟨⟨#[]⟩, 0, 0, 0⟩)[q % 4]'hm) := List.getElem?_eq_getElem _
    have h5 := rowsC_at (l := List.replicate n ⟨⟨#[]⟩, 0, 0, 0⟩) (i := q / 4) (by rw [List.getElem?_replicate, if_pos hd]) (q % 4) hz
    rw [← e] at h5
    rw [h5]
    simp only [madeCells]
    rw [Array.getElem?_map, Array.getElem?_range, if_pos hq, Option.map_some]
    congr 1
    show (#[Value.string ⟨#[]⟩, .int .i64 0, .int .i64 0, .int .i64 0] : Array Value)[q % 4]! = _
    rcases (by omega : q % 4 = 0 ∨ q % 4 = 1 ∨ q % 4 = 2 ∨ q % 4 = 3) with h | h | h | h <;> simp [h, rwL]
  · have h5 : (rowsC (List.replicate n ⟨⟨#[]⟩, 0, 0, 0⟩))[q]? = none := by
      rw [Array.getElem?_eq_none]; rw [rowsC_size]; simp; omega
    rw [h5]
    simp only [madeCells]
    rw [Array.getElem?_eq_none]; simp; omega
theorem made_rows (n : Nat) (hn : n ≤ 1000) (w : World) : (Instr.makeSlice 47 (.int .i64 n) (.int .i64 n)).run Tryd.prog w = .ok (.slice (some ⟨w.heap.size, 0, none⟩) n n) (w.alloc (.cells (rowsC (List.replicate n ⟨⟨#[]⟩, 0, 0, 0⟩)) 52)) := by
  obtain ⟨i0, h1, h2, h3, h4⟩ := info_parts info_row
  have h := run_makeSlice (P := Tryd.prog) w 47 52 i0 _ Tryd.underlying47 h1 h2 .i64 .i64 n n (by omega) (by omega) (by rw [h3]; simp; omega) (by rw [h4]; omega) (by omega)
  rw [h, h3, Int.toNat_natCast, show Value.cells (.agg #[.string ⟨#[]⟩, .int .i64 0, .int .i64 0, .int .i64 0]) = #[.string ⟨#[]⟩, .int .i64 0, .int .i64 0, .int .i64 0] from rfl, made_eq]

structure RepAt (w : World) (gt gr gp : Nat) (t : Tr) (A : Option Addr) (c : Nat) (rows : List Rw) (place : List (ByteArray × Int)) (wr : World) : Prop where
  box : wr.heap[gt]? = some (.cells #[.string t.name, .string t.layer, .int .i64 t.lo, .int .i64 t.hi, .slice A t.arms.length c] 29)
  row : wr.heap[gr]? = some (.cells (rowsC rows) 52)
  mp : Mp (strK (P := Tryd.prog) (kt := 9) Tryd.underlying9) intV wr gp place
  ext : Ext w wr
section
variable {w wr wr' : World} {gt gr gp : Nat} {t : Tr} {A : Option Addr} {c : Nat} {rows rows' : List Rw} {place place' : List (ByteArray × Int)}
theorem RepAt.go (h : RepAt w gt gr gp t A c rows place wr) (hx : Ext wr wr') : RepAt w gt gr gp t A c rows place wr' := ⟨hx.blk h.box, hx.blk h.row, h.mp.ext hx, h.ext.trans hx⟩
theorem RepAt.keep {g : Nat} (h : RepAt w gt gr gp t A c rows place wr) (hk : Keeps (fun i => i ≠ g) wr wr') (h1 : gp < g) (h2 : gt < gr) (h3 : gr < gp) (h4 : w.heap.size ≤ gt) : RepAt w gt gr gp t A c rows place wr' :=
  ⟨hk.blk h.box (by omega), hk.blk h.row (by omega), h.mp.keep hk (by omega), Keeps.then_ h.ext hk (fun i hi _ => by omega)⟩
theorem RepAt.setRow {i j : Nat} {r r' : Rw} {u : Value} (h : RepAt w gt gr gp t A c rows place wr) (hr : rows[i]? = some r) (hs : (rwL r).set j u = rwL r') (hj : j < 4) (h2 : gt < gr) (h3 : gr < gp) (h4 : w.heap.size ≤ gt) : RepAt w gt gr gp t A c (rows.set i r') place (wr.setCell ⟨gr, i * 4 + j, none⟩ u) := by
  have hk : Keeps (fun k => k ≠ gr) wr (wr.setCell ⟨gr, i * 4 + j, none⟩ u) := (Keeps.refl _ _).setCell (fun _ h => h rfl) _
  refine ⟨hk.blk h.box (by omega), ?_, h.mp.keep hk (by omega), Keeps.then_ h.ext hk (fun k hk _ => by omega)⟩
  rw [blk_set h.row, rowsC_set hr hs hj]
theorem RepAt.setPlace (h : RepAt w gt gr gp t A c rows place wr) (hk : Keeps (fun i => i ≠ gp) wr wr') (hm : Mp (strK (P := Tryd.prog) (kt := 9) Tryd.underlying9) intV wr' gp place') (h2 : gt < gr) (h3 : gr < gp) (h4 : w.heap.size ≤ gt) : RepAt w gt gr gp t A c rows place' wr' :=
  ⟨hk.blk h.box (by omega), hk.blk h.row (by omega), hm, Keeps.then_ h.ext hk (fun i hi _ => by omega)⟩
end
/-- The first k arms have their places. -/
def PlaceAt (arms : List ByteArray) (k : Nat) (place : List (ByteArray × Int)) : Prop := (place.map (·.1)).Nodup ∧ place = (arms.take k).mapIdx (fun i a => (a, (i : Int)))
theorem armsOk_nodup {arms : List ByteArray} (h : armsOk arms = true) : arms.Nodup := by
  rw [List.nodup_iff_pairwise_ne, List.pairwise_iff_getElem]
  intro i j hi hj hij e
  have h1 := List.all_eq_true.1 h j (List.mem_range.2 hj)
  have h2 : armOk arms j = false := armOk_in (List.getElem?_eq_getElem hj) (List.any_eq_true.2 ⟨arms[i], by rw [List.mem_take_iff_getElem]; exact ⟨i, by omega, rfl⟩, beq_bytes.2 e.symm⟩)
  rw [h2] at h1; cases h1
theorem placeAt_keys {arms : List ByteArray} {k : Nat} {place : List (ByteArray × Int)} (h : place = (arms.take k).mapIdx (fun i a => (a, (i : Int)))) : place.map (·.1) = arms.take k := by
  rw [h]
  apply List.ext_getElem?
  intro i
  simp only [List.getElem?_map, List.getElem?_mapIdx]
  cases (List.take k arms)[i]? <;> rfl
theorem place_step {arms : List ByteArray} {k : Nat} {place : List (ByteArray × Int)} {a : ByteArray} (hnd : arms.Nodup) (h : PlaceAt arms k place) (ha : arms[k]? = some a) : PlaceAt arms (k + 1) (putM (fun a b : ByteArray => a == b) place a (k : Int)) := by
  have hk : k < arms.length := (List.getElem?_eq_some_iff.1 ha).1
  have hkeys := placeAt_keys h.2
  have hnot : a ∉ arms.take k := fun hm => by
    obtain ⟨i, hi, hie⟩ := List.mem_take_iff_getElem.1 hm
    have := List.pairwise_iff_getElem.1 hnd i k (by omega) hk (by omega)
    exact this (by rw [hie, (List.getElem?_eq_some_iff.1 ha).2])
  have hno : getM (fun a b : ByteArray => a == b) place a = none := getM_none_iff.2 (fun p hp e => hnot (by rw [← hkeys, ← e]; exact List.mem_map_of_mem hp))
  have he : putM (fun a b : ByteArray => a == b) place a (k : Int) = (arms.take (k + 1)).mapIdx (fun i a => (a, (i : Int))) := by
    rw [putM_none hno, List.take_add_one, ha, h.2]
    simp [List.mapIdx_append]
    omega
  refine ⟨?_, he⟩
  rw [placeAt_keys he]
  exact hnd.sublist (List.take_sublist _ _)
theorem place_get {arms : List ByteArray} {k j : Nat} {place : List (ByteArray × Int)} {a : ByteArray} (h : PlaceAt arms k place) (hj : j < k) (ha : arms[j]? = some a) : getM (fun a b : ByteArray => a == b) place a = some (j : Int) := by
  refine getM_of_mem h.1 ?_
  rw [h.2]
  refine List.mem_of_getElem? (i := j) ?_
  rw [List.getElem?_mapIdx, List.getElem?_take_of_lt hj, ha]; rfl
theorem look_p {W : World} {m : Nat} {l : List (ByteArray × Int)} (h : Mp (strK (P := Tryd.prog) (kt := 9) Tryd.underlying9) intV W m l) (name : ByteArray) (x : Int) (hg : getM (fun a b : ByteArray => a == b) l name = some x) :
    (Instr.lookup 79 (.map (some m)) (.string name) false).run Tryd.prog W = .ok (.int .i64 x) W := by
  have := h.look Tryd.underlying79 (zero_i W) name false
  rw [show getM ((strK (P := Tryd.prog) (kt := 9) Tryd.underlying9)).eq l name = some x from hg] at this
  rw [show (Value.string name) = MK.of ((strK (P := Tryd.prog) (kt := 9) Tryd.underlying9)) name from rfl, this]
  rfl
end Go.Proofs.YtdkgphambjnbiaaDoor
