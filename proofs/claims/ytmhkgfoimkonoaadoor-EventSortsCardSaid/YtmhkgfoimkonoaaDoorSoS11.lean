/-
  What is proved here: the program's Sort of events is the plain function's, in new memory. Conditions: at most a hundred thousand events.
-/
import Derived.Test.YtmhkgfoimkonoaaDoorSoS10
namespace Go.Proofs.YtmhkgfoimkonoaaDoor
open Go Go.RowKit Go.Proofs
attribute [local go_sem ↓] Go.wp_at_zero Go.wp_at_succ
theorem Own.new_nil {α : Type} {R : Rep α} {t : TypeId} {ok : Nat → Prop} {w : World} {g base : Nat} (hg : w.heap[g]? = some (.cells #[] t)) (hb : base ≤ g) : Own R t ok w base (.slice (some ⟨g, 0, none⟩) 0 0) 0 [] :=
  ⟨rfl, [], ⟨by simp, .inr ⟨g, 0, #[], rfl, hb, hg, Nat.le_refl _, by unfold maxLen; omega, by simp, by simp⟩⟩, rfl, fun _ _ _ h => (by simp at h)⟩
theorem Own.row {ok : Nat → Prop} {w : World} {base g n c : Nat} {l : List Ev} (h : Own evR 30 ok w base (.slice (some ⟨g, 0, none⟩) n c) n l) : ∃ S, Row w g 0 S l := by
  have hp := h.parts
  have hs := h.2.choose_spec
  generalize h.2.choose = xss at *
  obtain ⟨ho, hx, hr⟩ := hs
  rcases ho.2 with ⟨hv, _⟩ | ⟨g', cap, cur, hv, hb, hg, hnc, hcm, hcs, htk⟩
  · injection hv with hv; cases hv
  · injection hv with h1 _ h2
    injection h1 with h1
    injection h1 with h1 _ _
    subst h1
    refine ⟨cur.size, cur, hg, rfl, fun k e hk j v hj => ?_⟩
    have hkl : k < xss.length := by rw [hx, ← h.1]; exact (List.getElem?_eq_some_iff.1 hk).1
    have hxs : xss[k] = evL e := hr k e xss[k] hk (List.getElem?_eq_getElem hkl)
    have h9 := flatten_at xss 8 k (evL e) hp (by rw [List.getElem?_eq_getElem hkl, hxs]) j v hj
    have h8 := ho.cells (g := g) rfl _ v h9
    rw [ad_add] at h8
    simp only [World.cell?, hg] at h8
    simpa using h8
theorem Row.sl {ok : Nat → Prop} {w : World} {g o S n : Nat} {d : List Ev} (h : Row w g o S d) (hn : d.length = n) (ho : ok g) : Sl evR ok w (some ⟨g, o, none⟩) n d :=
  ⟨hn, fun _ => ⟨g, o, rfl, h.lt, ho, fun k a ha => ⟨evL a, rfl, fun j u hu => by
    obtain ⟨C, hg, _, hc⟩ := h
    exact blk_cell hg _ (hc k a ha j u hu)⟩⟩⟩
theorem info_apiEv : (Tryd.prog.info? 30).map (fun i => (i.zero, i.size, i.bytes)) = some (some (.agg #[.string ⟨#[]⟩, .int .i64 0, .int .i64 0, .int .i64 0, .string ⟨#[]⟩, .string ⟨#[]⟩, .int .i64 0, .string ⟨#[]⟩]), 8, 96) := by kernel_rfl
theorem info_part3 {t : TypeId} {z : Option Value} {a b : Nat} (h : (Tryd.prog.info? t).map (fun i => (i.zero, i.size, i.bytes)) = some (z, a, b)) : ∃ i, Tryd.prog.info? t = some i ∧ i.zero = z ∧ i.size = a ∧ i.bytes = b := by
  cases hi : Tryd.prog.info? t with
  | none => rw [hi] at h; simp at h
  | some i => rw [hi] at h; simp at h; exact ⟨i, rfl, h.1, h.2.1, h.2.2⟩
set_option maxRecDepth 100000 in
set_option maxHeartbeats 2000000 in
theorem evs_Clone (A : Option Addr) (n c : Nat) (l : List Ev) (ok : Nat → Prop) (w : World) (hs : Sl evR ok w A n l) (hn : n ≤ 100000) :
    Calls Tryd.prog 31 #[.slice A n c] w fun e w' => ∃ A' c', e = .returned (.slice A' n c') ∧ Own evR 30 (fun _ => True) w' w.heap.size (.slice A' n c') n l ∧ Ext w w' := by
  obtain ⟨i0, hi0, hz0, hz1, hz2⟩ := info_part3 info_apiEv
  have Hs := Lib.hid hs
  have hl := hs.1
  cases A with
  | none =>
    have hn0 : n = 0 := by
      rcases Nat.eq_zero_or_pos n with h | h
      · exact h
      · obtain ⟨_, _, h9, _⟩ := hs.2 h; cases h9
    subst hn0
    have hl0 : l = [] := List.eq_nil_of_length_eq_zero hl
    subst hl0
    clear hs
    have hq := Go.Lib.run_eql_slice_nil (P := Tryd.prog) w 22 30 none 0 c 0 0 Tryd.underlying22
    go_enter Tryd.func31, Tryd.ntmps31
    go_wp2_with fail
    go_ret
    exact ⟨none, 0, rfl, Own.nil_, Keeps.refl _ _⟩
  | some p =>
    clear hs
    have hq := Go.Lib.run_eql_slice_nil (P := Tryd.prog) w 22 30 (some p) n c 0 0 Tryd.underlying22
    go_enter Tryd.func31, Tryd.ntmps31
    go_wp2_with (at_builtin; go_loud (refine wpList_append_Own (ok := fun _ => True) (R := evR) _ rfl (.tmp 5) (.tmp 6) 22 rfl 30 i0 _ 96 w.heap.size Tryd.underlying22 hi0 hz0 hz1 hz2 rfl (by decide) rfl (Own.new_nil (blk_new _ _) (Nat.le_refl _)) _ n c l rfl (Sl.flat_src evR_flat (Hs.out.alloc _)) (by omega) (by decide) (by simp) ?_; intro A2 c2 w2 hown2 hg2 hat2; have Hext := Lib.hid (show Ext w w2 from Keeps.grown (Keeps.alloc (Keeps.refl _ _) _) hg2 (fun g hg hl => by have h9 : some w.heap.size = some g := hg; injection h9 with h9; omega)); have Hown2 := Lib.hid hown2; clear hown2 hg2 hat2))
    go_ret
    have h9 := Hown2.out
    simp only [Nat.zero_add, List.nil_append] at h9
    exact ⟨A2, c2, by simp, h9, Hext.out⟩
end Go.Proofs.YtmhkgfoimkonoaaDoor
