/-
  What is proved here: laws on slices of bytes that the call itself makes: a text made into bytes, bytes into a text, and append. No program is in sight. Conditions: at most 2^30 bytes.
-/
import Derived.Test.YtmhkgfoimkonoaaDoorBase
import Derived.Deep.Upon
import Derived.Deep.MidRow
namespace Go.Proofs.YtmhkgfoimkonoaaDoor
open Go Go.RowKit

theorem blk_before {w : World} {g j lo hi : Nat} {C : Array Value} {t : TypeId} (h : w.heap[g]? = some (.cells C t (lo, hi))) (hj : j < lo) : w.frozen? ⟨g, j, none⟩ = false := by
  simp [World.frozen?, h]; omega
def byteV (c : UInt8) : Value := .int .u8 (c.toNat : Int)
/-- A slice of bytes of the call's own. -/
def Bts (w : World) (base : Nat) (v : Value) (n : Nat) (bs : List UInt8) : Prop :=
  bs.length = n ∧ ((v = .slice none 0 0 ∧ n = 0) ∨ ∃ g cap, v = .slice (some ⟨g, 0, none⟩) n cap ∧ base ≤ g ∧ n ≤ cap ∧ cap ≤ maxLen ∧ g < w.heap.size ∧
    (∀ j, j < cap → (w.cell? ⟨g, j, none⟩).isSome = true ∧ w.frozen? ⟨g, j, none⟩ = false) ∧ ∀ j u, (bs.map byteV)[j]? = some u → w.cell? ⟨g, j, none⟩ = some u)
section
variable {P : Program} {w w' : World} {base : Nat} {v : Value} {n : Nat} {bs : List UInt8}
theorem Bts.form (h : Bts w base v n bs) : ∃ A c, v = .slice A n c := by
  rcases h.2 with ⟨rfl, rfl⟩ | ⟨g, cap, rfl, _⟩
  · exact ⟨_, _, rfl⟩
  · exact ⟨_, _, rfl⟩
theorem Bts.lt (h : Bts w base v n bs) : ∀ g, v.ownBlock = some g → base ≤ g ∧ g < w.heap.size := by
  intro k hk
  rcases h.2 with ⟨rfl, _⟩ | ⟨g, cap, rfl, hb, _, _, hg, _⟩
  · simp [Value.ownBlock] at hk
  · simp [Value.ownBlock] at hk; subst hk; exact ⟨hb, hg⟩
theorem Bts.keep (h : Bts w base v n bs) (hs : w.heap.size ≤ w'.heap.size) (hv : ∀ g, v.ownBlock = some g → w'.heap[g]? = w.heap[g]?) : Bts w' base v n bs := by
  refine ⟨h.1, ?_⟩
  rcases h.2 with hn | ⟨g, cap, rfl, hb, hnc, hcm, hg, hc, hx⟩
  · exact .inl hn
  · have e := hv g rfl
    exact .inr ⟨g, cap, rfl, hb, hnc, hcm, Nat.lt_of_lt_of_le hg hs, fun j hj => by rw [World.cell?_of_block (w := w) (w' := w') (a := ⟨g, j, none⟩) e, World.frozen?_of_block (w := w) (w' := w') (a := ⟨g, j, none⟩) e]; exact hc j hj, fun j u hu => (World.cell?_of_block (w := w) (w' := w') (a := ⟨g, j, none⟩) e).trans (hx j u hu)⟩
theorem Bts.ext (h : Bts w base v n bs) (hx : Ext w w') : Bts w' base v n bs := h.keep hx.size (fun g hg => hx.block g (h.lt g hg).2 trivial)
theorem Bts.nil_ : Bts w base (.slice none 0 0) 0 [] := ⟨rfl, .inl ⟨rfl, rfl⟩⟩
theorem byteV_one (bs : List UInt8) : ∀ u ∈ bs.map byteV, u.oneCell' = true := fun u hu => by obtain ⟨_, _, rfl⟩ := List.mem_map.1 hu; rfl
theorem byteCells_eq (s : ByteArray) : byteCells s = s.data.toList.map byteV := rfl
/-- Where the bytes lie. -/
theorem Bts.cells {A : Option Addr} {c : Nat} (h : Bts w base (.slice A n c) n bs) (hn : 0 < n) : ∃ g, A = some ⟨g, 0, none⟩ ∧ base ≤ g ∧ g < w.heap.size ∧ n ≤ c ∧ ∀ j u, (bs.map byteV)[j]? = some u → w.cell? ⟨g, j, none⟩ = some u := by
  rcases h.2 with ⟨_, h0⟩ | ⟨g, cap, hv, hb, hnc, _, hg, _, hx⟩
  · omega
  · injection hv with h1 _ h2
    exact ⟨g, h1, hb, hg, by omega, hx⟩
theorem Bts.src {t e : TypeId} {A : Option Addr} {c : Nat} (h : Bts w base (.slice A n c) n bs) (ht : P.underlying t = some (.slice e)) : Go.Src P 1 t (.slice A n c) n (bs.map byteV) w := by
  rcases h.2 with ⟨hv, h0⟩ | ⟨g, cap, hv, hb, hnc, _, hg, _, hx⟩
  · subst h0
    have : bs = [] := List.eq_nil_of_length_eq_zero h.1
    subst this
    injection hv with h1 _ h2
    subst h1; subst h2
    exact Go.Src.ofNil w ht 0
  · injection hv with h1 _ h2
    subst h1
    exact Go.Src.ofSlice w ht _ n c _ (by simp [h.1]) (fun j u hu => by rw [ad_add, Nat.zero_add]; exact hx j u hu) (byteV_one bs)
theorem keeps_setCells {ok : Nat → Prop} (g : Nat) (hg : ¬ ok g) : ∀ (vs : List Value) (o : Nat) (w : World), Keeps ok w (w.setCells g o vs)
  | [], _, w => Keeps.refl _ w
  | x :: vs, o, w => ((Keeps.refl ok w).setCell (p := ⟨g, o, none⟩) (fun _ => hg) x).trans (keeps_setCells g hg vs (o + 1) _)
theorem Keeps.grownBy {g : Nat} (h : Keeps (fun k => k ≠ g) w w') : w.grownBy w' (some g) := ⟨h.os, h.tape, h.output, h.size, fun k hk hne => h.block k hk (fun e => hne (by rw [e]))⟩

/-- What a grown row of bytes is. -/
theorem bts_grown (w : World) (e : TypeId) (bs : List UInt8) (cap : Nat) (hc : bs.length ≤ cap) (hm : cap ≤ maxLen) (hb : base ≤ w.heap.size) :
    Bts (w.drew.alloc (.cells ((bs.map byteV).toArray ++ Builtin.zeroCells (Value.int .u8 0).cells (cap - bs.length)) e)) base (.slice (some ⟨w.heap.size, 0, none⟩) bs.length cap) bs.length bs := by
  have hg := blk_new w.drew (.cells ((bs.map byteV).toArray ++ Builtin.zeroCells (Value.int .u8 0).cells (cap - bs.length)) e)
  have hgs : w.drew.heap.size = w.heap.size := rfl
  rw [hgs] at hg
  have hsz : ((bs.map byteV).toArray ++ Builtin.zeroCells (Value.int .u8 0).cells (cap - bs.length)).size = cap := by
    rw [Array.size_append, size_zeroCells]
    simp [Value.cells]; omega
  refine ⟨rfl, .inr ⟨w.heap.size, cap, rfl, hb, hc, hm, by simp [hgs], fun j hj => ⟨?_, blk_free hg j⟩, fun j u hu => blk_cell hg j ?_⟩⟩
  · rw [blk_cell hg j (Array.getElem?_eq_getElem (by omega))]; rfl
  · have hj : j < (bs.map byteV).length := (List.getElem?_eq_some_iff.1 hu).1
    rw [Array.getElem?_append_left (by simpa using hj)]
    simpa using hu

theorem run_append_Bts (w : World) (t tx ty e : TypeId) (i : TypeInfo) (ht : P.underlying t = some (.slice e)) (hi : P.info? e = some i) (hz : i.zero = some (.int .u8 0)) (h1 : i.size = 1) (hby : i.bytes = 1)
    (hb : Bts w base v n bs) (x : Value) (m : Nat) (news : List UInt8) (hs : Go.Src P 1 tx x m (news.map byteV) w) (hm : n + m ≤ 1073741824) (hbase : base ≤ w.heap.size) :
    ∃ A' c' w', (Builtin.append_ #[t, tx] ty #[v, x]).run P w = .ok (.slice A' (n + m) c') w' ∧ Bts w' base (.slice A' (n + m) c') (n + m) (bs ++ news) ∧ w.grownBy w' v.ownBlock ∧
      ((Value.slice A' (n + m) c').ownBlock = v.ownBlock ∨ (Value.slice A' (n + m) c').ownBlock = some w.heap.size) := by
  have hnl : news.length = m := by have := hs.newsLen; simpa using this
  have hlen : (bs ++ news).length = n + m := by rw [List.length_append, hb.1, hnl]
  have hs' : Go.Src P i.size tx x m (news.map byteV) w := by rw [h1]; exact hs
  have grow : ∀ (A : Option Addr) (cap : Nat), v = .slice A n cap → (Builtin.firstCells i.size n (.slice A n cap)).run P w.drew = .ok (bs.map byteV).toArray w.drew → cap < n + m →
      ∃ A' c' w', (Builtin.append_ #[t, tx] ty #[v, x]).run P w = .ok (.slice A' (n + m) c') w' ∧ Bts w' base (.slice A' (n + m) c') (n + m) (bs ++ news) ∧ w.grownBy w' v.ownBlock ∧
        ((Value.slice A' (n + m) c').ownBlock = v.ownBlock ∨ (Value.slice A' (n + m) c').ownBlock = some w.heap.size) := by
    intro A cap hv hold hcap
    have hr := run_append_grow_src (P := P) w t tx ty e i _ ht hi hz A n cap (bs.map byteV) hold x m _ hs' hcap (by omega) (growslice_fits hcap (by rw [hby]; omega))
    have hge := grownCap_ge w (n + m) cap e
    have hcm : grownCap w (n + m) cap e ≤ maxLen := grownCap_le_maxLen w (n + m) cap e (by unfold maxLen; omega)
    have hB := bts_grown (base := base) w e (bs ++ news) (grownCap w (n + m) cap e) (by rw [hlen]; exact hge) hcm hbase
    rw [hlen, List.map_append] at hB
    rw [hv]
    exact ⟨_, _, _, hr, hB, ⟨rfl, rfl, rfl, by simp, fun k hk _ => Below.heap_alloc w.drew _ k hk⟩, .inr rfl⟩
  rcases hb.2 with ⟨rfl, rfl⟩ | ⟨g, cap, rfl, hbg, hnc, hcm, hg, hc, hx⟩
  · have hbs : bs = [] := List.eq_nil_of_length_eq_zero hb.1
    subst hbs
    rcases Nat.eq_zero_or_pos m with rfl | hpos
    · have hn : news = [] := List.eq_nil_of_length_eq_zero hnl
      subst hn
      refine ⟨none, 0, w, run_append_nothing w t tx ty e i ht hi none 0 0 (Nat.le_refl _) x hs', Bts.nil_, ⟨rfl, rfl, rfl, Nat.le_refl _, fun _ _ _ => rfl⟩, .inl rfl⟩
    · exact grow none 0 rfl (run_firstCells_none w.drew i.size 0 0 0) (by omega)
  · by_cases hroom : n + m ≤ cap
    · have hr := run_append_room_src (P := P) w t tx ty e i ht hi g 0 n cap x m _ hs' hroom (fun j hj => by
          rw [h1]; simp at hj; exact (hc _ (by omega)).1) (fun j hj => by rw [h1]; simp at hj; exact (hc _ (by omega)).2)
      rw [h1, Nat.mul_one, Nat.zero_add] at hr
      have hk : Keeps (fun k => k ≠ g) w (w.setCells g n (news.map byteV)) := keeps_setCells g (fun h => h rfl) _ _ _
      refine ⟨_, _, _, hr, ⟨hlen, .inr ⟨g, cap, rfl, hbg, hroom, hcm, Nat.lt_of_lt_of_le hg hk.size, fun j hj => ⟨World.isSome_setCells g _ _ _ _ (hc j hj).1, (World.frozen?_setCells g _ _ _ _).trans (hc j hj).2⟩, fun j u hu => ?_⟩⟩, hk.grownBy, .inl rfl⟩
      rw [List.map_append] at hu
      rcases Nat.lt_or_ge j n with hj | hj
      · rw [List.getElem?_append_left (by simp [hb.1]; omega)] at hu
        rw [World.cell?_setCells_out g _ _ _ _ (fun _ _ => .inl hj)]
        exact hx j u hu
      · rw [List.getElem?_append_right (by simp [hb.1]; omega)] at hu
        simp only [List.length_map, hb.1] at hu
        have hjl : j - n < (news.map byteV).length := (List.getElem?_eq_some_iff.1 hu).1
        have := World.cell?_setCells_in g (news.map byteV) n w (fun i hi => (hc _ (by simp at hi; omega)).1) (j - n) hjl
        rw [show n + (j - n) = j by omega] at this
        rw [this]
        exact (List.getElem?_eq_getElem hjl).symm.trans hu
    · exact grow _ cap rfl (run_firstCells_some w.drew i.size n ⟨g, 0, none⟩ n cap (bs.map byteV) (by rw [h1]; simp [hb.1]) (fun j u hu => by rw [ad_add, Nat.zero_add]; exact hx j u hu)) (by omega)

theorem wp_append_Bts (w : World) {o : Oper} {a : Act} {K : Act → World → Prop} {Q : Exit → Act → World → Prop} (s y : Operand) (t tx : TypeId)
    (hop : o.op = .call { callee := .builtin .append, args := #[s, y], argTypes := #[t, tx] })
    (e : TypeId) (i : TypeInfo) (ht : P.underlying t = some (.slice e)) (hi : P.info? e = some i) (hz : i.zero = some (.int .u8 0)) (h1 : i.size = 1) (hby : i.bytes = 1)
    (hsv : a.eval s = v) (hb : Bts w base v n bs) (x : Value) (m : Nat) (news : List UInt8) (hx : a.eval y = x) (hs : Go.Src P 1 tx x m (news.map byteV) w) (hm : n + m ≤ 1073741824) (hbase : base ≤ w.heap.size)
    (h : ∀ A' c' w', Bts w' base (.slice A' (n + m) c') (n + m) (bs ++ news) → w.grownBy w' v.ownBlock → ((Value.slice A' (n + m) c').ownBlock = v.ownBlock ∨ (Value.slice A' (n + m) c').ownBlock = some w.heap.size) → K (a.put o.dst (.slice A' (n + m) c')) w') : o.wp P a w K Q := by
  obtain ⟨A', c', w', hrun, h2, h3, h4⟩ := run_append_Bts (P := P) w t tx o.type e i ht hi hz h1 hby hb x m news hs hm hbase
  unfold Oper.wp execOp
  simp only [hop, resolve, invoke, builtin, Sem.run_bind, Sem.run_pure, Result.andThen_ok, List.map_toArray, List.map_cons, List.map_nil, hsv, hx, hrun]
  exact h A' c' w' h2 h3 h4
theorem wpList_append_Bts (w : World) {ops : Array Oper} {rest : List Oper} {o : Oper} {a : Act} {Q : Exit → Act → World → Prop} (hgd : o.guard = none) (s y : Operand) (t tx : TypeId)
    (hop : o.op = .call { callee := .builtin .append, args := #[s, y], argTypes := #[t, tx] })
    (e : TypeId) (i : TypeInfo) (ht : P.underlying t = some (.slice e)) (hi : P.info? e = some i) (hz : i.zero = some (.int .u8 0)) (h1 : i.size = 1) (hby : i.bytes = 1)
    (hsv : a.eval s = v) (hb : Bts w base v n bs) (x : Value) (m : Nat) (news : List UInt8) (hx : a.eval y = x) (hs : Go.Src P 1 tx x m (news.map byteV) w) (hm : n + m ≤ 1073741824) (hbase : base ≤ w.heap.size)
    (h : ∀ A' c' w', Bts w' base (.slice A' (n + m) c') (n + m) (bs ++ news) → w.grownBy w' v.ownBlock → ((Value.slice A' (n + m) c').ownBlock = v.ownBlock ∨ (Value.slice A' (n + m) c').ownBlock = some w.heap.size) → wpList P ops Q rest (a.put o.dst (.slice A' (n + m) c')) w') : wpList P ops Q (o :: rest) a w :=
  wpList_plain hgd fun _ hK => wp_append_Bts w s y t tx hop e i ht hi hz h1 hby hsv hb x m news hx hs hm hbase fun A' c' w' h2 h3 h4 => hK _ _ (h A' c' w' h2 h3 h4)
/-- A text made into bytes. -/
theorem bts_of_string (w : World) (src dst e : TypeId) (s : ByteArray) (hs : P.underlying src = some .string) (hd : P.underlying dst = some (.slice e)) (he : P.underlying e = some (.int .u8)) (hm : s.size ≤ 1073741824) (hbase : base ≤ w.heap.size) :
    ∃ c w', (convert src dst (.string s)).run P w = .ok (.slice (some ⟨w.heap.size, 0, none⟩) s.size c) w' ∧ Bts w' base (.slice (some ⟨w.heap.size, 0, none⟩) s.size c) s.size s.data.toList ∧ Ext w w' := by
  refine ⟨_, _, run_bytes_of_string w src dst e s hs hd he, ?_, (Keeps.refl _ _).drew.alloc _⟩
  have hge := grownCap_ge w s.size 0 e
  have hcm : grownCap w s.size 0 e ≤ maxLen := grownCap_le_maxLen w s.size 0 e (by unfold maxLen; omega)
  generalize grownCap w s.size 0 e = cap at *
  have hg := blk_new w.drew (.cells (bytesRow s cap) e ((bytesRow s cap).size, (bytesRow s cap).size + 1))
  have hgs : w.drew.heap.size = w.heap.size := rfl
  rw [hgs] at hg
  have hsz : (bytesRow s cap).size = cap := by
    unfold bytesRow
    simp
    have : s.data.size = s.size := rfl
    omega
  refine ⟨by simp, .inr ⟨w.heap.size, cap, rfl, hbase, hge, hcm, by simp [hgs], fun j hj => ⟨?_, ?_⟩, fun j u hu => blk_cell hg j ?_⟩⟩
  · rw [blk_cell hg j (Array.getElem?_eq_getElem (by omega))]; rfl
  · exact blk_before hg (by omega)
  · have hj : j < s.data.size := by simpa using (List.getElem?_eq_some_iff.1 hu).1
    rw [bytesRow_at s cap j hj]
    rw [List.getElem?_map] at hu
    simp only [Array.getElem?_toList, Array.getElem?_eq_getElem hj, Option.map_some] at hu
    rw [← hu]; rfl
/-- Bytes made into a text. -/
theorem string_of_bts (w : World) (src dst e : TypeId) (A : Option Addr) (c : Nat) (hs : P.underlying src = some (.slice e)) (he : P.underlying e = some (.int .u8)) (hd : P.underlying dst = some .string) (h : Bts w base (.slice A n c) n bs) :
    (convert src dst (.slice A n c)).run P w = .ok (.string ⟨bs.toArray⟩) w := by
  rcases h.2 with ⟨hv, h0⟩ | ⟨g, cap, hv, hb, hnc, _, hg, _, hx⟩
  · subst h0
    have : bs = [] := List.eq_nil_of_length_eq_zero h.1
    subst this
    injection hv with h1 _ h2
    subst h1; subst h2
    simp [convert, run_underlying hs, run_underlying he, run_underlying hd, Conv.bytesToString]
    rfl
  · injection hv with h1 _ h2
    subst h1
    have := run_convert_bytes_back (P := P) w src dst e ⟨g, 0, none⟩ c bs hs he hd (fun j hj => by
      rw [ad_add, Nat.zero_add]
      exact hx j _ (by simp [hj, byteV]))
    rw [h.1] at this
    exact this
end
end Go.Proofs.YtmhkgfoimkonoaaDoor
