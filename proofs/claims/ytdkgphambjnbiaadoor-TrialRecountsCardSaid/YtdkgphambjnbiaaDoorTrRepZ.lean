/-
  What is proved here: the report of a name that no trial of the book has. Conditions: at most a thousand trials.
  both reports, the program's and the document's, of any name, as one list of rows. Conditions: at most a thousand trials, exposures and events, short texts.
-/
import Derived.Test.YtdkgphambjnbiaaDoorTrExp
import Derived.Test.YtdkgphambjnbiaaDoorTrRep3
import Derived.Test.YtdkgphambjnbiaaDoorTrXb
import Derived.Test.YtdkgphambjnbiaaDoorTrXr2
namespace Go.Proofs.YtdkgphambjnbiaaDoor
open Go Go.RowKit Go.Proofs
attribute [local go_sem ↓] Go.wp_at_zero Go.wp_at_succ
set_option maxRecDepth 100000 in
set_option maxHeartbeats 4000000 in
theorem rep_none (b m lim : Nat) (v : Value) (outer : List (ByteArray × Nat)) (ts : List Tr) (xs : ByteArray → List (ByteArray × Int)) (name : ByteArray) (w : World) (h : BookX w b m lim v outer ts xs) (hn : ts.length ≤ 1000) (hi : ts.findIdx? (fun o => o.name == name) = none) (Al : Option Addr) (n cl : Nat) :
    Calls Tryd.prog 25 #[.pointer (some ⟨b, 0, none⟩), .string name, .slice Al n cl] w fun r w' => r = .returned (.slice none 0 0) ∧ Ext w w' := by
  have Hf := Lib.hid (bk_find_no b m lim v outer ts xs name w h hn hi)
  clear h hi
  go_enter Tryd.func25, Tryd.ntmps25
  go_wp2_with (go_at_call 39; refine Hf.out.mono ?_; rintro _ w1 ⟨rfl, hx1⟩; have Hx1 := Lib.hid hx1; clear hx1)
  go_ret
  exact ⟨rfl, Hx1.out.alloc _⟩
end Go.Proofs.YtdkgphambjnbiaaDoor
namespace Go.Proofs.YtdkgphambjnbiaaDoor
open Go Go.RowKit Go.Proofs
/-- The rows of a report. -/
def repL (l : List Tr) (had : List Xp) (name : ByteArray) (all : List Ev) : List Rw :=
  match l.findIdx? (fun o => o.name == name) with
  | none => []
  | some i => match l[i]? with | none => [] | some t => rowsE t (peopleX had name) (cntL (xsOf had name) all)
theorem repL_none {l : List Tr} {had : List Xp} {name : ByteArray} {all : List Ev} (h : l.findIdx? (fun o => o.name == name) = none) : repL l had name all = [] := by unfold repL; rw [h]
theorem repL_some {l : List Tr} {had : List Xp} {name : ByteArray} {all : List Ev} {i : Nat} {t : Tr} (h : l.findIdx? (fun o => o.name == name) = some i) (ht : l[i]? = some t) : repL l had name all = rowsE t (peopleX had name) (cntL (xsOf had name) all) := by unfold repL; rw [h]; simp only; rw [ht]
theorem rowsE_len (t : Tr) (ds : List ByteArray) (cs : List Ev) : (rowsE t ds cs).length = t.arms.length := by unfold rowsE; simp
theorem repL_len {l : List Tr} {had : List Xp} {name : ByteArray} {all : List Ev} (hm : l.all mayT = true) : (repL l had name all).length ≤ 16 := by
  cases hf : l.findIdx? (fun o => o.name == name) with
  | none => rw [repL_none hf]; simp
  | some i =>
    obtain ⟨hil, _⟩ := List.findIdx?_eq_some_iff_getElem.1 hf
    have ht := List.getElem?_eq_getElem hil
    rw [repL_some hf ht, rowsE_len]
    exact (mayT_parts (List.all_eq_true.1 hm _ (List.mem_of_getElem? ht))).few
section
variable {ok : Nat → Prop} {w w' : World} {A : Option Addr} {n : Nat}
theorem Sl.rw {l : List Rw} (h : Sl rwR ok w A n l) {k : Nat} (hk : k < n) : ∃ (b o : Nat) (r : Rw), A = some ⟨b, o, none⟩ ∧ b < w.heap.size ∧ ok b ∧ l[k]? = some r ∧
    w.cell? ⟨b, o + k * 4, none⟩ = some (.string r.arm) ∧ w.cell? ⟨b, o + k * 4 + 1, none⟩ = some (.int .i64 r.people) ∧ w.cell? ⟨b, o + k * 4 + 2, none⟩ = some (.int .i64 r.bought) ∧ w.cell? ⟨b, o + k * 4 + 3, none⟩ = some (.int .i64 r.worth) := by
  obtain ⟨b, o, r, xs, rfl, hb, ho, he, rfl, hc⟩ := h.at_ hk
  exact ⟨b, o, r, rfl, hb, ho, he, hc 0 _ rfl, hc 1 _ rfl, hc 2 _ rfl, hc 3 _ rfl⟩
end
theorem Sl.rows {w : World} {g : Nat} {t : TypeId} {l : List Rw} {n : Nat} (h : w.heap[g]? = some (.cells (rowsC l) t)) (hl : l.length = n) : Sl rwR (fun _ => True) w (some ⟨g, 0, none⟩) n l :=
  Sl.new_flat h trivial hl fun _ r hr => ⟨rwL r, rfl, fun j _ hu => rowsC_at hr j hu⟩
theorem xs_len (had : List Xp) (name : ByteArray) : (xsOf had name).length ≤ had.length := by
  have := peopleX_len had name had.length
  rw [List.take_of_length_le (Nat.le_refl _)] at this
  simpa [peopleX] using this
theorem bk_Report_any (b m lim : Nat) (v : Value) (outer : List (ByteArray × Nat)) (l : List Tr) (had : List Xp) (name : ByteArray) (w : World) (h : BookX w b m lim v outer l (xsOf had)) (hn : l.length ≤ 1000) (hm : l.all mayT = true) (hwf : ∀ t ∈ l, TrWf t) (hh : HadOk l had) (hnh : had.length ≤ 1000)
    (Al : Option Addr) (n cl : Nat) (all : List Ev) (ok : Nat → Prop) (hs : Sl evR ok w Al n all) (hn2 : n ≤ 1000) (hsm : ∀ e ∈ all, EvSm e) (hmx : Mx w) :
    Calls Tryd.prog 25 #[.pointer (some ⟨b, 0, none⟩), .string name, .slice Al n cl] w fun r w' => ∃ G cG, r = .returned (.slice G (repL l had name all).length cG) ∧ Sl rwR (fun _ => True) w' G (repL l had name all).length (repL l had name all) ∧ Ext w w' := by
  cases hf : l.findIdx? (fun o => o.name == name) with
  | none =>
    rw [repL_none hf]
    exact (rep_none b m lim v outer l _ name w h hn hf Al n cl).mono fun _ _ ⟨h1, h2⟩ => ⟨none, 0, h1, Sl.nil_, h2⟩
  | some i =>
    obtain ⟨hil, _⟩ := List.findIdx?_eq_some_iff_getElem.1 hf
    have ht := List.getElem?_eq_getElem hil
    have hmem := List.mem_of_getElem? ht
    rw [repL_some hf ht, rowsE_len]
    exact (rep_any b m lim v outer l (xsOf had) name w h hn i _ hf ht (hwf _ hmem) (List.all_eq_true.1 hm _ hmem) (had_ex hh hf ht) (Nat.le_trans (xs_len had name) hnh) Al n cl all ok hs hn2 hsm hmx).mono
      fun _ _ ⟨g, h1, h2, _, h3⟩ => ⟨_, _, h1, Sl.rows h2 (rowsE_len _ _ _), h3⟩
theorem rf_Report_any (A : Option Addr) (n c : Nat) (l : List Tr) (Ax : Option Addr) (nx cx : Nat) (had : List Xp) (name : ByteArray) (Al : Option Addr) (na cl : Nat) (all : List Ev) (ok ok2 ok3 : Nat → Prop) (w : World) (hs : Sl trR ok w A n l) (hn : n ≤ 1000) (hm : l.all mayT = true) (hwf : ∀ t ∈ l, TrWf t) (hsx : Sl xpR ok2 w Ax nx had) (hnx : nx ≤ 1000) (hh : HadOk l had) (hsl : Sl evR ok3 w Al na all) (hna : na ≤ 1000) (hcl : na ≤ cl) (hsm : ∀ e ∈ all, EvSm e) :
    Calls Tryd.prog 26 #[.slice A n c, .slice Ax nx cx, .string name, .slice Al na cl] w fun r w' => ∃ G cG, r = .returned (.slice G (repL l had name all).length cG) ∧ Sl rwR (fun _ => True) w' G (repL l had name all).length (repL l had name all) ∧ Ext w w' := by
  cases hf : l.findIdx? (fun o => o.name == name) with
  | none =>
    rw [repL_none hf]
    exact (rf_Report_none A n c l Ax nx cx name Al na cl ok w hs hn hf).mono fun _ _ ⟨h1, h2⟩ => ⟨none, 0, h1, Sl.nil_, by rw [← h2]; exact Keeps.refl _ _⟩
  | some i =>
    obtain ⟨hil, _⟩ := List.findIdx?_eq_some_iff_getElem.1 hf
    have ht := List.getElem?_eq_getElem hil
    have hmem := List.mem_of_getElem? ht
    rw [repL_some hf ht, rowsE_len]
    exact (rf_Report A n c l Ax nx cx had name Al na cl all ok ok2 ok3 w hs hn hwf hsx hnx hsl hna hcl hsm i _ hf ht (List.all_eq_true.1 hm _ hmem) (had_in hh hf ht) hh.short (had_tick hh) (had_empty hh name)).mono
      fun _ _ ⟨B, cb, h1, h2, h3⟩ => ⟨B, cb, h1, h2.sl (fun _ _ _ _ => trivial) (fun _ _ _ => trivial), h3⟩
/-! ### the exposures one behind the other -/
structure HadAt (w W : World) (b m lim : Nat) (v : Value) (l : List Tr) (x : List Xp) (k : Nat) (Ah : Option Addr) (nh : Nat) (outer : List (ByteArray × Nat)) : Prop where
  sl : Sl xpR (fun g => g < W.heap.size ∧ g ≠ m ∧ ∀ p ∈ outer, p.2 ≠ g) W Ah nh (hadOf l (x.take k))
  bk : BookX W b m lim v outer l (xsOf (hadOf l (x.take k)))
  ext : Ext w W
  mw : w.heap.size ≤ m
  out : ∀ p ∈ outer, w.heap.size ≤ p.2
theorem BookX.in_ {w : World} {b m lim : Nat} {v : Value} {outer : List (ByteArray × Nat)} {ts : List Tr} {xs : ByteArray → List (ByteArray × Int)} (h : BookX w b m lim v outer ts xs) : ∀ p ∈ outer, p.2 < w.heap.size := fun p hp => (h.inn p hp).lt
/-- The document's Expose. -/
theorem had_step1 {w W w1 : World} {b m lim : Nat} {v : Value} {l : List Tr} {x : List Xp} {k : Nat} {Ah : Option Addr} {nh ch : Nat} {outer : List (ByteArray × Nat)} {e : Xp} {r : Ending} (h : HadAt w W b m lim v l x k Ah nh outer) (hk : x[k]? = some e) {W0 : World} (hW : Ext W W0) (h1 : RExp W0 Ah nh ch l (hadOf l (x.take k)) e r w1) :
    ∃ A' n' c', r = .returned (.tuple #[.slice A' n' c', .bool (okX l e)]) ∧ Sl xpR (fun g => g < w1.heap.size ∧ g ≠ m ∧ ∀ p ∈ outer, p.2 ≠ g) w1 A' n' (hadOf l (x.take (k + 1))) ∧ Ext W0 w1 := by
  obtain ⟨hx, h2⟩ := h1
  have hsz := hx.size
  have hsz0 := hW.size
  have hmb := h.bk.mb
  have hbl := h.bk.bl
  have hlw := h.bk.lw
  cases ho : okX l e
  · rw [if_neg (by rw [ho]; decide)] at h2
    rw [had_take hk, ho, if_neg (by decide)]
    exact ⟨Ah, nh, ch, h2, (h.sl.ext (hW.trans hx)).mono (fun i _ hi => ⟨by omega, hi.2⟩), hx⟩
  · rw [if_pos ho] at h2
    obtain ⟨A6, c6, h3, h4⟩ := h2
    rw [had_take hk, ho, if_pos rfl]
    have h5 : Own xpR 43 (fun _ => False) w1 W0.heap.size (.slice A6 (nh + 1) c6) (nh + 1) (hadOf l (x.take k) ++ [e]) := h4.flat xpR_flat (fun _ _ => rfl)
    refine ⟨A6, nh + 1, c6, h3, h5.sl (fun g hg hl _ => ⟨hl, by omega, fun p hp => by have := h.bk.in_ p hp; omega⟩) (fun _ _ hf => hf.elim), hx⟩
/-- The program's. -/
theorem had_step2 {w W w1 w2 W1 : World} {b m lim : Nat} {v : Value} {l : List Tr} {x : List Xp} {k : Nat} {Ah A' : Option Addr} {nh n' : Nat} {outer outer' : List (ByteArray × Nat)} {e : Xp} (h : HadAt w W b m lim v l x k Ah nh outer) (hk : x[k]? = some e)
    (h1 : Sl xpR (fun g => g < w1.heap.size ∧ g ≠ m ∧ ∀ p ∈ outer, p.2 ≠ g) w1 A' n' (hadOf l (x.take (k + 1)))) (hx1 : Ext W w1) (hx2 : Ext w1 W1) (hb : BookX w2 b m lim v outer' l (if okX l e then xsStep (xsOf (hadOf l (x.take k))) e else xsOf (hadOf l (x.take k))))
    (hk2 : Keeps (fun g => g ≠ m ∧ ∀ p ∈ outer, p.2 ≠ g) W1 w2) (ho : ∀ p ∈ outer', p ∈ outer ∨ W1.heap.size ≤ p.2) : HadAt w w2 b m lim v l x (k + 1) A' n' outer' := by
  have s1 := hx1.size
  have s2 := hx2.size
  have s3 := hk2.size
  have s0 := h.ext.size
  refine ⟨?_, ?_, ?_, h.mw, fun p hp => ?_⟩
  · have h3 := h1.ext hx2
    have h4 : Sl xpR (fun g => g < w1.heap.size ∧ g ≠ m ∧ ∀ p ∈ outer, p.2 ≠ g) w2 A' n' (hadOf l (x.take (k + 1))) := h3.keep (hk2.mono fun g _ hg => hg.2)
    refine h4.mono fun g _ hg => ⟨by omega, hg.2.1, fun p hp e => ?_⟩
    rcases ho p hp with h5 | h5
    · exact hg.2.2 p h5 e
    · omega
  · rw [xs_take hk]; exact hb
  · exact Keeps.then_ (h.ext.trans (hx1.trans hx2)) hk2 (fun i hi _ => ⟨by have := h.mw; omega, fun p hp e => by have := h.out p hp; omega⟩)
  · rcases ho p hp with h5 | h5
    · exact h.out p h5
    · omega
theorem HadAt.drewN {w W : World} {b m lim : Nat} {v : Value} {l : List Tr} {x : List Xp} {k : Nat} {Ah : Option Addr} {nh : Nat} {outer : List (ByteArray × Nat)} (h : HadAt w W b m lim v l x k Ah nh outer) (q : Nat) : HadAt w (W.drewN q) b m lim v l x k Ah nh outer :=
  ⟨h.sl.drewN q, h.bk.ext (Ext.of_drewN _ _), h.ext.drewN q, h.mw, h.out⟩
theorem HadAt.start {w W : World} {b m lim : Nat} {v : Value} {l : List Tr} {x : List Xp} (hb : BookX W b m lim v [] l (fun _ => [])) (hx : Ext w W) (hm : w.heap.size ≤ m) : HadAt w W b m lim v l x 0 none 0 [] :=
  ⟨Sl.nil_, hb, hx, hm, fun _ h => by cases h⟩
theorem hadOf_len (l : List Tr) (x : List Xp) : (hadOf l x).length ≤ x.length := List.length_filter_le _ _
end Go.Proofs.YtdkgphambjnbiaaDoor
