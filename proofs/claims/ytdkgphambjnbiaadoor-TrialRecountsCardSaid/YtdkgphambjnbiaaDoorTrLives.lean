/-
  What is proved here: the law's own example, lives, is true. No condition.
-/
import Derived.Test.YtdkgphambjnbiaaDoorTrRep2
namespace Go.Proofs.YtdkgphambjnbiaaDoor
open Go Go.RowKit Go.Proofs
attribute [local go_sem ↓] Go.wp_at_zero Go.wp_at_succ

theorem lv_may : mayT (⟨⟨#[116]⟩, ⟨#[108]⟩, 0, 1000, [⟨#[97]⟩]⟩ : Tr) = true := by decide +kernel
theorem lv_wf : TrWf (⟨⟨#[116]⟩, ⟨#[108]⟩, 0, 1000, [⟨#[97]⟩]⟩ : Tr) := ⟨by decide, by decide, by decide, fun s hs => by simp at hs; subst hs; decide⟩
theorem lv_in : inT (⟨⟨#[116]⟩, ⟨#[108]⟩, 0, 1000, [⟨#[97]⟩]⟩ : Tr) (⟨#[112]⟩ : ByteArray) = true := by
  have h := bucketT_in (Tr.layer (⟨⟨#[116]⟩, ⟨#[108]⟩, 0, 1000, [⟨#[97]⟩]⟩ : Tr)) (⟨#[112]⟩ : ByteArray)
  unfold inT
  rw [lv_may]
  have h1 : decide (bucketT (Tr.layer (⟨⟨#[116]⟩, ⟨#[108]⟩, 0, 1000, [⟨#[97]⟩]⟩ : Tr)) (⟨#[112]⟩ : ByteArray) < Tr.lo (⟨⟨#[116]⟩, ⟨#[108]⟩, 0, 1000, [⟨#[97]⟩]⟩ : Tr)) = false := decide_eq_false (by show ¬ _ < (0 : Int); omega)
  have h2 : decide (Tr.hi (⟨⟨#[116]⟩, ⟨#[108]⟩, 0, 1000, [⟨#[97]⟩]⟩ : Tr) ≤ bucketT (Tr.layer (⟨⟨#[116]⟩, ⟨#[108]⟩, 0, 1000, [⟨#[97]⟩]⟩ : Tr)) (⟨#[112]⟩ : ByteArray)) = false := decide_eq_false (by show ¬ (1000 : Int) ≤ _; omega)
  rw [h1, h2]; rfl
theorem lv_arm : armT (⟨⟨#[116]⟩, ⟨#[108]⟩, 0, 1000, [⟨#[97]⟩]⟩ : Tr) (⟨#[112]⟩ : ByteArray) = ⟨#[97]⟩ := by
  have h := armNo_in (⟨⟨#[116]⟩, ⟨#[108]⟩, 0, 1000, [⟨#[97]⟩]⟩ : Tr) (⟨#[112]⟩ : ByteArray) (by decide)
  have h0 : (armNo (⟨⟨#[116]⟩, ⟨#[108]⟩, 0, 1000, [⟨#[97]⟩]⟩ : Tr) (⟨#[112]⟩ : ByteArray)).toNat = 0 := by
    have h2 : armNo (⟨⟨#[116]⟩, ⟨#[108]⟩, 0, 1000, [⟨#[97]⟩]⟩ : Tr) (⟨#[112]⟩ : ByteArray) < 1 := h.2
    have h1 := h.1
    generalize armNo (⟨⟨#[116]⟩, ⟨#[108]⟩, 0, 1000, [⟨#[97]⟩]⟩ : Tr) (⟨#[112]⟩ : ByteArray) = z at h1 h2 ⊢
    omega
  have h3 := armT_at lv_in
  rw [h0] at h3
  exact (Option.some.inj h3).symm
theorem lv_all : ([(⟨⟨#[116]⟩, ⟨#[108]⟩, 0, 1000, [⟨#[97]⟩]⟩ : Tr)] : List Tr).all mayT = true := by rw [List.all_cons, lv_may]; rfl
theorem lv_clash : clashT [(⟨⟨#[116]⟩, ⟨#[108]⟩, 0, 1000, [⟨#[97]⟩]⟩ : Tr)] = false := rfl
theorem lv_exp : expT (⟨⟨#[116]⟩, ⟨#[108]⟩, 0, 1000, [⟨#[97]⟩]⟩ : Tr) (⟨#[112]⟩ : ByteArray) 5 = true := by unfold expT; rw [lv_in]; decide
theorem lv_idx : ([(⟨⟨#[116]⟩, ⟨#[108]⟩, 0, 1000, [⟨#[97]⟩]⟩ : Tr)] : List Tr).findIdx? (fun o => o.name == (⟨#[116]⟩ : ByteArray)) = some 0 := by decide +kernel
theorem one_tr {ok : Nat → Prop} {W : World} {h : Nat} (t : Tr) {A : Option Addr} {c : Nat} {T : TypeId} {fr : Nat × Nat} (hb : W.heap[h]? = some (.cells #[.string t.name, .string t.layer, .int .i64 t.lo, .int .i64 t.hi, .slice A t.arms.length c] T fr)) (hok : ok h) (hc : t.arms.length ≤ c) (hs : Sl strR ok W A t.arms.length t.arms) : Sl trR ok W (some ⟨h, 0, none⟩) 1 [t] :=
  Sl.new_flat hb hok rfl fun k a ha => by
    match k, ha with
    | 0, ha =>
      simp at ha; subst ha
      exact ⟨_, ⟨A, c, rfl, hc, hs⟩, fun j u hu => by simpa [trR] using hu⟩

set_option maxRecDepth 100000 in
set_option maxHeartbeats 4000000 in
theorem law_lives (w : World) : Calls Tryd.prog 11 #[] w fun e w' => e = .returned (.bool true) ∧ Ext w w' := by
  go_enter Tryd.func11, Tryd.ntmps11
  go_wp2_with fail
  have hs0 : Sl strR (fun _ => True) ((w.alloc (.cells #[.string ⟨#[97]⟩] 9)).alloc (.cells #[.string ⟨#[116]⟩, .string ⟨#[108]⟩, .int .i64 0, .int .i64 1000, .slice (some ⟨w.heap.size, 0, none⟩) 1 1] 29)) (some ⟨w.heap.size, 0, none⟩) 1 [⟨#[97]⟩] := (Sl.new_strs (blk_new w _) trivial rfl rfl).alloc _
  have Hs0 := Lib.hid hs0
  clear hs0
  have hg0 := blk_new' (w.alloc (.cells #[.string ⟨#[97]⟩] 9)) (.cells #[.string ⟨#[116]⟩, .string ⟨#[108]⟩, .int .i64 0, .int .i64 1000, .slice (some ⟨w.heap.size, 0, none⟩) 1 1] 29) (w.heap.size + 1) (by simp)
  have Hg0 := Lib.hid hg0
  have Hx0 := Lib.hid (((Keeps.refl (fun _ => True) w).alloc (.cells #[.string ⟨#[97]⟩] 9)).alloc (.cells #[.string ⟨#[116]⟩, .string ⟨#[108]⟩, .int .i64 0, .int .i64 1000, .slice (some ⟨w.heap.size, 0, none⟩) 1 1] 29))
  clear hg0
  refine (tr_Arm (⟨⟨#[116]⟩, ⟨#[108]⟩, 0, 1000, [⟨#[97]⟩]⟩ : Tr) (⟨#[112]⟩ : ByteArray) (some ⟨w.heap.size, 0, none⟩) 1 (fun _ => True) _ Hs0.out (by decide) lv_wf (by decide)).mono ?_
  rw [lv_arm, lv_in]
  rintro _ w1 ⟨rfl, hx1⟩
  have hg1 := hx1.blk Hg0.out
  have r0 := blk_cell hg1 0 rfl
  have r1 := blk_cell hg1 1 rfl
  have r2 := blk_cell hg1 2 rfl
  have r3 := blk_cell hg1 3 rfl
  have r4 := blk_cell hg1 4 rfl
  have Hg1 := Lib.hid hg1
  have Hs1 := Lib.hid (Hs0.out.ext hx1)
  have Hx1 := Lib.hid (Hx0.out.trans hx1)
  clear hg1 hx1 Hs0 Hg0 Hx0
  go_wp2_with fail
  refine (new_ok (some ⟨w1.heap.size, 0, none⟩) 1 1 [(⟨⟨#[116]⟩, ⟨#[108]⟩, 0, 1000, [⟨#[97]⟩]⟩ : Tr)] (fun _ => True) _ (one_tr (⟨⟨#[116]⟩, ⟨#[108]⟩, 0, 1000, [⟨#[97]⟩]⟩ : Tr) (blk_new w1 _) trivial (by decide) (Hs1.out.alloc _)) (by decide) (fun t ht => by simp at ht; subst ht; exact lv_wf) lv_all lv_clash).mono ?_
  rintro _ w2 ⟨b, m, lim, v, rfl, hb, hB, hx2⟩
  have hx12 := Keeps.trans ((Keeps.refl (fun _ => True) w1).alloc _) hx2
  have hg2 := Ext.blk hx12 Hg1.out
  clear r0 r1 r2 r3 r4
  have r0 := blk_cell hg2 0 rfl
  have r1 := blk_cell hg2 1 rfl
  have r2 := blk_cell hg2 2 rfl
  have r3 := blk_cell hg2 3 rfl
  have r4 := blk_cell hg2 4 rfl
  have HB := Lib.hid hB
  have Hs2 := Lib.hid (Hs1.out.ext hx12)
  have Hx2 := Lib.hid (Hx1.out.trans hx12)
  have hszb : w.heap.size ≤ m := Nat.le_trans Hx1.out.size (Nat.le_trans (by simp) hb)
  clear hB hx2 hx12 hg2 hb
  go_wp2_with fail
  refine (tr_May (⟨⟨#[116]⟩, ⟨#[108]⟩, 0, 1000, [⟨#[97]⟩]⟩ : Tr) (some ⟨w.heap.size, 0, none⟩) 1 (fun _ => True) _ Hs2.out (by decide) lv_wf).mono ?_
  rw [lv_may]
  rintro _ w3 ⟨rfl, hx3⟩
  have HB3 := Lib.hid (HB.out.ext hx3)
  have Hx3 := Lib.hid (Hx2.out.trans hx3)
  clear hx3 r0 r1 r2 r3 r4
  go_wp2_with fail
  refine (exp_yes b m lim v [] [(⟨⟨#[116]⟩, ⟨#[108]⟩, 0, 1000, [⟨#[97]⟩]⟩ : Tr)] (fun _ => []) ⟨#[116]⟩ (⟨#[112]⟩ : ByteArray) 5 _ HB3.out (by decide) 0 (⟨⟨#[116]⟩, ⟨#[108]⟩, 0, 1000, [⟨#[97]⟩]⟩ : Tr) lv_idx rfl lv_wf (by decide) (by decide) lv_exp).mono ?_
  rintro _ w4 ⟨rfl, outer', hB4, hk4, _⟩
  have hxs : setX (fun _ => []) ⟨#[116]⟩ (putMin [] (⟨#[112]⟩ : ByteArray) 5) ⟨#[116]⟩ = [((⟨#[112]⟩ : ByteArray), 5)] := by rw [setX_same]; rfl
  have HR := Lib.hid (rep_nil b m lim v outer' [(⟨⟨#[116]⟩, ⟨#[108]⟩, 0, 1000, [⟨#[97]⟩]⟩ : Tr)] _ ⟨#[116]⟩ w4 hB4 (by decide) 0 (⟨⟨#[116]⟩, ⟨#[108]⟩, 0, 1000, [⟨#[97]⟩]⟩ : Tr) lv_idx rfl lv_wf lv_may (by rw [hxs]; intro p hp; simp at hp; subst hp; exact ⟨lv_in, by decide⟩) (by rw [hxs]; decide))
  have Hx4 := Lib.hid (show Ext w w4 from Keeps.then_ Hx3.out hk4 (fun i hi _ => ⟨by omega, by simp⟩))
  clear hB4 hk4 hxs
  go_wp2_with (go_at_call 25; refine HR.out.mono ?_; rintro _ w5 ⟨g, rfl, hg5, _, hx5⟩; have Hx5 := Lib.hid (Hx4.out.trans hx5); clear hg5 hx5)
  go_ret
  exact ⟨rfl, Hx5.out⟩
end Go.Proofs.YtdkgphambjnbiaaDoor
