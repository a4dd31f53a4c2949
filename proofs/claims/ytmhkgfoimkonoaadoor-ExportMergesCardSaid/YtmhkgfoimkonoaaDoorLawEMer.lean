/-
  What is proved here: the law ExportMerges returns true, whatever the texts, and leaves old memory as it was. Conditions: no text is longer than a text can be; the library's variables, and the names of the kinds, hold what their text lays.
-/
import Derived.Test.YtmhkgfoimkonoaaDoorExV
namespace Go.Proofs.YtmhkgfoimkonoaaDoor
open Go Go.RowKit Go.Proofs
attribute [local go_sem ↓] Go.wp_at_zero Go.wp_at_succ
section
variable {P : Program} {α : Type} {R : Rep α} {ok : Nat → Prop} {w : World} {v : Value} {n : Nat} {l : List α}
theorem wpList_append_OwnG {ops : Array Oper} {rest : List Oper} {o : Oper} {a : Act} {Q : Exit → Act → World → Prop} (hgd : Region.wanted o (yielded ops a.tmps) = true) (s x : Operand) (t : TypeId)
    (hop : o.op = .call { callee := .builtin .append, args := #[s, x], argTypes := #[t, t] })
    (e : TypeId) (i : TypeInfo) (z : Value) (bytes base : Nat) (ht : P.underlying t = some (.slice e)) (hi : P.info? e = some i) (hz : i.zero = some z)
    (hsize : i.size = R.size) (hby : i.bytes = bytes) (hzs : z.cells.size = R.size) (hsz : 0 < R.size)
    (hs : a.eval s = v) (hown : Own R e ok w base v n l) (A : Option Addr) (m c : Nat) (l' : List α) (hx : a.eval x = .slice A m c) (hsl : Srcs R (off ok v) w A m l')
    (hn : n + m ≤ 1073741824) (hbytes : bytes ≤ 1024) (hbase : base ≤ w.heap.size)
    (h : ∀ A' c' w', Own R e ok w' base (.slice A' (n + m) c') (n + m) (l ++ l') → w.grownBy w' v.ownBlock →
      ((Value.slice A' (n + m) c').ownBlock = v.ownBlock ∨ (Value.slice A' (n + m) c').ownBlock = some w.heap.size) → wpList P ops Q rest (a.put o.dst (.slice A' (n + m) c')) w') : wpList P ops Q (o :: rest) a w :=
  wpList_step fun K hK => by
    rw [if_pos hgd]
    exact wp_append_Own w s x t hop e i z bytes base ht hi hz hsize hby hzs hsz hs hown A m c l' hx hsl hn hbytes hbase fun A' c' w' h2 h3 h4 => hK _ _ (h A' c' w' h2 h3 h4)
end
set_option maxRecDepth 100000 in
set_option maxHeartbeats 8000000 in
theorem law_EMer (a b : ByteArray) (w : World) (ha : a.size ≤ 140737488355328) (hb : b.size ≤ 140737488355328) (hv : Vars w) :
    Calls Tryd.prog 7 #[.string a, .string b] w fun r w' => r = .returned (.bool true) ∧ Ext w w' := by
  have Hv := Lib.hid hv
  obtain ⟨i0, hi0, hz0, hz1, hz2⟩ := info_part3 info_apiEv
  clear hv
  by_cases h3a : 3000 < a.size
  · go_enter Tryd.func7, Tryd.ntmps7
    go_wp2_with (go_at_call 15; refine (law42_lives _ Hv.out).mono ?_; rintro _ w1 ⟨rfl, hx1⟩; have Hx1 := Lib.hid hx1; clear hx1)
    go_ret
    exact ⟨rfl, Hx1.out⟩
  by_cases h3b : 3000 < b.size
  · go_enter Tryd.func7, Tryd.ntmps7
    go_wp2_with (go_at_call 15; refine (law42_lives _ Hv.out).mono ?_; rintro _ w1 ⟨rfl, hx1⟩; have Hx1 := Lib.hid hx1; clear hx1)
    go_ret
    exact ⟨rfl, Hx1.out⟩
  have hla := impS_len a
  have hlb := impS_len b
  have C0 := Lib.hid (fun (W : World) (h : Ext w W) => ex_Merge a b W (by omega) (by omega) (by omega) (by omega) (Hv.out.ext h))
  have C1 := Lib.hid (fun (W : World) => rf_Import a W (by omega))
  have C2 := Lib.hid (fun (W : World) => rf_Import b W (by omega))
  have Ha := Lib.hid (fun h => (impS_ok (s := a) (by omega) h).2.2.2.1)
  have Hb := Lib.hid (fun h => (impS_ok (s := b) (by omega) h).2.2.2.1)
  have Hm := Lib.hid (show mergeS a b = if (impS a).2.2 ≠ 0 then (⟨#[]⟩, (impS a).2.1, (impS a).2.2) else if (impS b).2.2 ≠ 0 then (⟨#[]⟩, (impS b).2.1, (impS b).2.2) else (textB (allE ((impS a).1 ++ (impS b).1)), 0, 0) from rfl)
  unfold ImPost at C1 C2
  obtain ⟨R, hR⟩ : ∃ R, R = impS a := ⟨_, rfl⟩
  obtain ⟨S, hS⟩ : ∃ S, S = impS b := ⟨_, rfl⟩
  rw [← hR] at C1 Ha Hm hla
  rw [← hS] at C2 Hb Hm hlb
  obtain ⟨l1, n1, e1⟩ := R
  obtain ⟨l2, n2, e2⟩ := S
  simp only at C1 C2 Ha Hb Hm hla hlb
  clear hR hS
  by_cases h1 : e1 = 0
  · by_cases h2 : e2 = 0
    · rw [show mergeS a b = (textB (allE (l1 ++ l2)), 0, 0) by rw [Hm.out, if_neg (by simpa using h1), if_neg (by simpa using h2)]] at C0
      have Hsm := Lib.hid (show ∀ e ∈ l1 ++ l2, EvSm e from fun e he => evSm_may (by
        rcases List.mem_append.1 he with he | he
        · exact Ha.out h1 e he
        · exact Hb.out h2 e he))
      subst h1 h2
      clear Hm Ha Hb
      have Hla := Lib.hid hla
      have Hlb := Lib.hid hlb
      have HT := Lib.hid (fun (W : World) (A : Option Addr) (m c : Nat) (ok : Nat → Prop) (hs : Sl evR ok W A m (l1 ++ l2)) (hm : m ≤ 100000) => rf_Text A m c (l1 ++ l2) ok W hs hm Hsm.out)
      obtain ⟨T, hT⟩ : ∃ T, T = textB (allE (l1 ++ l2)) := ⟨_, rfl⟩
      rw [← hT] at C0 HT
      clear hT hla hlb
      go_enter Tryd.func7, Tryd.ntmps7
      go_wp2_with (go_at_call 15; refine (law42_lives _ Hv.out).mono ?_; rintro _ w1 ⟨rfl, hx1⟩; have Hx1 := Lib.hid hx1; clear hx1)
      refine (C0.out w1 Hx1.out).mono ?_
      rintro _ w2 ⟨rfl, hx2⟩
      have Hx2 := Lib.hid (Hx1.out.trans hx2)
      clear hx2
      go_wp2_with fail
      refine (C1.out w2).mono ?_
      rintro _ w3 ⟨B3, k3, c3, rfl, hown3, hx3⟩
      have Hx3 := Lib.hid (Hx2.out.trans hx3)
      have Hs3 := Lib.hid hown3.evSl
      have hk3 : k3 ≤ 3000 := by have h1 : l1.length = k3 := hown3.1; have h2 := Hla.out; omega
      clear hx3 hown3
      go_wp2_with fail
      refine (C2.out w3).mono ?_
      rintro _ w4 ⟨B4, k4, c4, rfl, hown4, hx4⟩
      have Hx4 := Lib.hid (Hx3.out.trans hx4)
      have Hs3' := Lib.hid (Hs3.out.ext hx4)
      have Hs4 := Lib.hid hown4.evSl
      have hk4 : k4 ≤ 3000 := by have h1 : l2.length = k4 := hown4.1; have h2 := Hlb.out; omega
      clear hx4 hown4
      go_wp2_with (first | (at_builtin; refine wpList_append_OwnG (ok := fun _ => True) (R := evR) (by rfl) (.tmp 79) (.tmp 80) 22 rfl 30 i0 _ 96 w4.heap.size Tryd.underlying22 hi0 hz0 hz1 hz2 rfl (by decide) rfl (Own.new_nil (blk_new _ _) (Nat.le_refl _)) _ k3 c3 l1 rfl (Sl.flat_src evR_flat (Hs3'.out.alloc _)) (by omega) (by decide) (by simp) ?_; intro A5 c5 w5 hown5 hg5 hat5; have Hx5 := Lib.hid (show Ext w4 w5 from Keeps.grown (Keeps.alloc (Keeps.refl _ _) _) hg5 (fun g hg hl => by have h9 : some w4.heap.size = some g := hg; injection h9 with h9; omega)); simp only [Nat.zero_add, List.nil_append] at hown5; have Hown5 := Lib.hid hown5; have hz5 := Hx5.out.size; clear hown5 hg5 hat5) | (at_builtin; refine wpList_append_OwnG (ok := fun _ => True) (R := evR) (by rfl) (.tmp 81) (.tmp 82) 22 rfl 30 i0 _ 96 w4.heap.size Tryd.underlying22 hi0 hz0 hz1 hz2 rfl (by decide) rfl Hown5.out _ k4 c4 l2 rfl (Sl.flat_src evR_flat (Hs4.out.ext Hx5.out)) (by omega) (by decide) (by omega) ?_; intro A6 c6 w6 hown6 hg6 hat6; have Hx6 := Lib.hid (show Ext w4 w6 from Keeps.grown Hx5.out hg6 (fun g hg hl => by have := (Hown5.out.lt g hg).1; omega)); have Hown6 := Lib.hid hown6; clear hown6 hg6 hat6))
      refine (HT.out w6 A6 (k3 + k4) c6 _ Hown6.out.evSl (by omega)).mono ?_
      rintro _ w7 ⟨rfl, hx7⟩
      have Hx7 := Lib.hid (Hx4.out.trans (Hx6.out.trans hx7))
      clear hx7
      go_wp2_with fail
      go_ret
      exact ⟨rfl, Hx7.out⟩
    · rw [show mergeS a b = (⟨#[]⟩, n2, e2) by rw [Hm.out, if_neg (by simpa using h1), if_pos h2]] at C0
      have h2' : (e2 != 0) = true := by simpa using h2
      subst h1
      clear Hm Ha Hb h2
      go_enter Tryd.func7, Tryd.ntmps7
      go_wp2_with (go_at_call 15; refine (law42_lives _ Hv.out).mono ?_; rintro _ w1 ⟨rfl, hx1⟩; have Hx1 := Lib.hid hx1; clear hx1)
      refine (C0.out w1 Hx1.out).mono ?_
      rintro _ w2 ⟨rfl, hx2⟩
      have Hx2 := Lib.hid (Hx1.out.trans hx2)
      clear hx2
      go_wp2_with fail
      refine (C1.out w2).mono ?_
      rintro _ w3 ⟨B3, k3, c3, rfl, _, hx3⟩
      have Hx3 := Lib.hid (Hx2.out.trans hx3)
      clear hx3
      go_wp2_with fail
      refine (C2.out w3).mono ?_
      rintro _ w4 ⟨B4, k4, c4, rfl, _, hx4⟩
      have Hx4 := Lib.hid (Hx3.out.trans hx4)
      clear hx4
      go_wp2_with fail
      go_ret
      exact ⟨rfl, Hx4.out⟩
  · rw [show mergeS a b = (⟨#[]⟩, n1, e1) by rw [Hm.out, if_pos h1]] at C0
    have h1' : (e1 != 0) = true := by simpa using h1
    clear Hm Ha Hb h1
    go_enter Tryd.func7, Tryd.ntmps7
    go_wp2_with (go_at_call 15; refine (law42_lives _ Hv.out).mono ?_; rintro _ w1 ⟨rfl, hx1⟩; have Hx1 := Lib.hid hx1; clear hx1)
    refine (C0.out w1 Hx1.out).mono ?_
    rintro _ w2 ⟨rfl, hx2⟩
    have Hx2 := Lib.hid (Hx1.out.trans hx2)
    clear hx2
    go_wp2_with fail
    refine (C1.out w2).mono ?_
    rintro _ w3 ⟨B3, k3, c3, rfl, _, hx3⟩
    have Hx3 := Lib.hid (Hx2.out.trans hx3)
    clear hx3
    go_wp2_with fail
    refine (C2.out w3).mono ?_
    rintro _ w4 ⟨B4, k4, c4, rfl, _, hx4⟩
    have Hx4 := Lib.hid (Hx3.out.trans hx4)
    clear hx4
    go_wp2_with fail
    go_ret
    exact ⟨rfl, Hx4.out⟩
end Go.Proofs.YtmhkgfoimkonoaaDoor
