/-
  What is proved here: the law TrialRecounts returns true, whatever the trial, exposures, events and stranger, and leaves old memory as it was. Conditions: no text is longer than a text can be; the library's variable holds some number.
-/
import Derived.Test.YtdkgphambjnbiaaDoorTrBook
import Derived.Test.YtdkgphambjnbiaaDoorTrTwo
import Derived.Test.YtdkgphambjnbiaaDoorEvBig
import Derived.Test.YtdkgphambjnbiaaDoorQuiet
import Derived.Deep.RegionWith
import Derived.Deep.RegionHeld3
import Derived.RegionTactic
import Derived.Deep.DeepCutAuto
import Derived.BigRegion
namespace Go.Proofs.YtdkgphambjnbiaaDoor
open Go Go.RowKit Go.Proofs
attribute [local go_sem ↓] Go.wp_at_zero Go.wp_at_succ
theorem one_clash (t : Tr) : clashT [t] = false := clashT_no fun k hk => by
  obtain rfl : k = 0 := by simpa using hk
  rfl
set_option maxRecDepth 100000 in
set_option maxHeartbeats 2000000 in
theorem ev_SameI (a b : Ev) (w : World) :
    Calls Tryd.prog 28 #[.agg #[.string a.src, .int .i64 a.num, .int .i64 a.tick, .int .i64 a.kind, .string a.person, .string a.item, .int .i64 a.value, .string a.text], .agg #[.string b.src, .int .i64 b.num, .int .i64 b.tick, .int .i64 b.kind, .string b.person, .string b.item, .int .i64 b.value, .string b.text]] w fun r w' => r = .returned (.bool (sameI a b)) ∧ Ext w w' := by
  have Hx := Lib.hid (fun (o1 o2 : Obj) => show Ext w ((w.alloc o1).alloc o2) from ((Keeps.refl _ _).alloc _).alloc _)
  cases h2 : (a.src == b.src) <;> have h2' := h2 <;> rw [beq_toListBytes] at h2'
  · have Hf := Lib.hid (show sameI a b = false by unfold sameI; rw [h2]; rfl)
    go_enter Tryd.func28, Tryd.ntmps28
    go_wp2_with fail
    go_ret
    exact ⟨by rw [Hf.out]; rfl, Hx.out _ _⟩
  · have Hf := Lib.hid (show sameI a b = decide (a.num = b.num) by unfold sameI; rw [h2]; rfl)
    go_enter Tryd.func28, Tryd.ntmps28
    go_wp2_with fail
    go_ret
    exact ⟨by rw [Hf.out]; rfl, Hx.out _ _⟩
theorem info_evx : (Tryd.prog.info? 62).map (fun i => (i.zero, i.size, i.bytes)) = some (some (.agg #[.string ⟨#[]⟩, .int .i64 0, .int .i64 0, .int .i64 0, .string ⟨#[]⟩, .string ⟨#[]⟩, .int .i64 0, .string ⟨#[]⟩]), 8, 96) := by kernel_rfl
/-- None of the first ones is a twin of one before it. -/
def ApartTo (l : List Ev) (k : Nat) : Prop := ∀ (i : Nat) (a : Ev), i < k → l[i]? = some a → ∀ (j : Nat) (b : Ev), j < i → l[j]? = some b → sameI a b = false
theorem apart_step {l : List Ev} {k : Nat} {e : Ev} (h : ApartTo l k) (he : l[k]? = some e) (hk : ∀ (j : Nat) (b : Ev), j < k → l[j]? = some b → sameI e b = false) : ApartTo l (k + 1) := fun i a hi ha j b hj hb => by
  rcases Nat.lt_or_ge i k with h1 | h1
  · exact h i a h1 ha j b hj hb
  · obtain rfl : i = k := by omega
    obtain rfl : e = a := Option.some.inj (he.symm.trans ha)
    exact hk j b hj hb
theorem apart_all {l : List Ev} {k : Nat} (h : ApartTo l k) (hk : l.length ≤ k) : ApartL l := apart_of fun i a ha => h i a (by have := (List.getElem?_eq_some_iff.1 ha).1; omega) ha
theorem back_step {l : List Ev} {s : ByteArray} {j : Nat} {e : Ev} (h : l[j]? = some e) : ((l.drop j).filter (fun e => !(e.person == s))).reverse = ((l.drop (j + 1)).filter (fun e => !(e.person == s))).reverse ++ (if (e.person == s) = true then [] else [e]) := by
  have hj : j < l.length := (List.getElem?_eq_some_iff.1 h).1
  obtain rfl : l[j] = e := by rw [List.getElem?_eq_getElem hj] at h; exact Option.some.inj h
  rw [List.drop_eq_getElem_cons hj]
  cases hp : (l[j].person == s)
  · rw [List.filter_cons_of_pos (by rw [hp]; rfl), List.reverse_cons, if_neg (by decide)]
  · rw [List.filter_cons_of_neg (by rw [hp]; decide), if_pos rfl, List.append_nil]
theorem expL_take {t : Tr} {s : ByteArray} {x : List Xp} {k : Nat} {e : Xp} (h : x[k]? = some e) : expL t s (x.take (k + 1)) = expL t s (x.take k) ++ (if (e.person == s) = true then [] else [⟨t.name, e.person, e.tick⟩]) := by
  rw [List.take_add_one, h, Option.toList_some, expL_app]
  congr 1
  cases hp : (e.person == s)
  · rw [if_neg (by decide), expL_yes hp]
  · rw [if_pos rfl, expL_no hp]
/-- The program exposes one more of those whom the law exposes. -/
theorem bk_ExposeL (b m lim : Nat) (v : Value) (outer : List (ByteArray × Nat)) (t : Tr) (s : ByteArray) (x : List Xp) (k : Nat) (e : Xp) (w : World) (hk : x[k]? = some e) (hs : (e.person == s) = false) (h : BookX w b m lim v outer [t] (xsOf (hadOf [t] (expL t s (x.take k))))) (hwf : TrWf t) (hp : e.person.size < maxLen) :
    Calls Tryd.prog 24 #[.pointer (some ⟨b, 0, none⟩), .string t.name, .string e.person, .int .i64 e.tick] w fun r w' => (∃ q : Bool, r = .returned (.bool q)) ∧ ∃ o2, BookX w' b m lim v o2 [t] (xsOf (hadOf [t] (expL t s (x.take (k + 1))))) ∧ Keeps (fun g => g ≠ m ∧ ∀ p ∈ outer, p.2 ≠ g) w w' ∧ ∀ p ∈ o2, p ∈ outer ∨ w.heap.size ≤ p.2 := by
  have h1 := bk_Expose b m lim v outer [t] _ ⟨t.name, e.person, e.tick⟩ w h (by simp) (fun y hy => by simp at hy; subst hy; exact hwf) hp
  refine h1.mono fun r w' ⟨h2, o2, h3, h4, h5⟩ => ⟨⟨_, h2⟩, o2, ?_, h4, h5⟩
  rw [expL_take hk, if_neg (by rw [hs]; decide), xsOf_more]
  exact h3
theorem expL_skip {t : Tr} {s : ByteArray} {x : List Xp} {k : Nat} {e : Xp} (h : x[k]? = some e) (hs : (e.person == s) = true) : expL t s (x.take (k + 1)) = expL t s (x.take k) := by
  rw [expL_take h, if_pos hs, List.append_nil]
theorem expL_ok {t : Tr} {s : ByteArray} {x : List Xp} (h : ∀ y ∈ x, y.person.size < maxLen) : HadOk [t] (hadOf [t] (expL t s x)) :=
  hadOf_ok fun y hy => by obtain ⟨z, hz, h1, _⟩ := expL_mem hy; rw [h1]; exact h z hz
theorem had30 (t : Tr) (s : ByteArray) {x : List Xp} {n : Nat} (h : x.length ≤ n) : (hadOf [t] (expL t s x)).length ≤ n := Nat.le_trans (hadOf_len _ _) (Nat.le_trans (expL_len t s x) h)

set_option maxRecDepth 100000 in
set_option maxHeartbeats 4000000 in
theorem law_Recounts (t : Tr) (A : Option Addr) (c : Nat) (Ax : Option Addr) (nx cx : Nat) (x : List Xp) (Aa : Option Addr) (na ca : Nat) (all : List Ev) (s : ByteArray) (ok : Nat → Prop) (w : World) (hs : Sl strR ok w A t.arms.length t.arms) (hc : t.arms.length ≤ c) (hwf : TrWf t) (hok : ∀ k, ok k → k < w.heap.size)
    (hsx : Sl xpR ok w Ax nx x) (hnx : nx ≤ 140737488355328) (hxt : ∀ y ∈ x, y.person.size ≤ 140737488355328) (hsa : Sl evR ok w Aa na all) (hna : na ≤ 140737488355328) (hew : ∀ e ∈ all, EvWf e) (hmx : Mx w) (hls : s.size ≤ 140737488355328) :
    Calls Tryd.prog 8 #[.agg #[.string t.name, .string t.layer, .int .i64 t.lo, .int .i64 t.hi, .slice A t.arms.length c], .slice Ax nx cx, .slice Aa na ca, .string s] w fun r w' => r = .returned (.bool true) ∧ Ext w w' := by
  have Hs := Lib.hid (show Sl strR (fun _ => True) w A t.arms.length t.arms from hs.mono (fun _ _ _ => trivial))
  have Hwf := Lib.hid hwf
  have Hok := Lib.hid hok
  have Hsx := Lib.hid hsx
  have Hlx := Lib.hid hsx.1
  have Hxt := Lib.hid hxt
  have Hsa := Lib.hid hsa
  have Hew := Lib.hid hew
  have Hmx := Lib.hid hmx
  have hnam : na ≤ maxLen := le_maxLen hna
  have HSo := Lib.hid (fun (W : World) (h : Ext w W) => ref_Some Aa na ca all 300 ok W (Hsa.out.ext h) hnam Hew.out)
  clear hs hwf hok hsx hxt hsa hew hmx
  cases hf : fewTs [t]
  · go_enter Tryd.func8, Tryd.ntmps8
    go_wp2_with (first | (go_at_call 11; refine (law_lives _).mono ?_; rintro _ w1 ⟨rfl, hx1⟩; have g1 := hx1.blk (blk_new w _); have r0 := blk_cell g1 0 rfl; have r1 := blk_cell g1 1 rfl; have r2 := blk_cell g1 2 rfl; have r3 := blk_cell g1 3 rfl; have r4 := blk_cell g1 4 rfl; have Hg1 := Lib.hid g1; have Hx1 := Lib.hid (Keeps.trans ((Keeps.refl (fun _ => True) w).alloc _) hx1); clear hx1 g1) | (go_at_call 12; refine (law_few (some ⟨w1.heap.size, 0, none⟩) 1 1 [t] (fun _ => True) _ (one_tr t (blk_new w1 _) trivial hc ((Hs.out.ext Hx1.out).alloc _)) (by decide) (fun x hx => by simp at hx; subst hx; exact Hwf.out)).mono ?_; rw [hf]; rintro _ w2 ⟨rfl, hx2⟩; have hx12 := Keeps.trans ((Keeps.refl (fun _ => True) w1).alloc _) hx2; have g2 := Ext.blk hx12 Hg1.out; clear r0 r1 r2 r3 r4; have r0 := blk_cell g2 0 rfl; have r1 := blk_cell g2 1 rfl; have r2 := blk_cell g2 2 rfl; have r3 := blk_cell g2 3 rfl; have r4 := blk_cell g2 4 rfl; have Hg2 := Lib.hid g2; have Hx2 := Lib.hid (Hx1.out.trans hx12); clear hx2 hx12 g2))
    go_ret
    exact ⟨rfl, Hx2.out⟩
  cases hm : mayT t
  · go_enter Tryd.func8, Tryd.ntmps8
    go_wp2_with (first | (go_at_call 11; refine (law_lives _).mono ?_; rintro _ w1 ⟨rfl, hx1⟩; have g1 := hx1.blk (blk_new w _); have r0 := blk_cell g1 0 rfl; have r1 := blk_cell g1 1 rfl; have r2 := blk_cell g1 2 rfl; have r3 := blk_cell g1 3 rfl; have r4 := blk_cell g1 4 rfl; have Hg1 := Lib.hid g1; have Hx1 := Lib.hid (Keeps.trans ((Keeps.refl (fun _ => True) w).alloc _) hx1); clear hx1 g1) | (go_at_call 12; refine (law_few (some ⟨w1.heap.size, 0, none⟩) 1 1 [t] (fun _ => True) _ (one_tr t (blk_new w1 _) trivial hc ((Hs.out.ext Hx1.out).alloc _)) (by decide) (fun x hx => by simp at hx; subst hx; exact Hwf.out)).mono ?_; rw [hf]; rintro _ w2 ⟨rfl, hx2⟩; have hx12 := Keeps.trans ((Keeps.refl (fun _ => True) w1).alloc _) hx2; have g2 := Ext.blk hx12 Hg1.out; clear r0 r1 r2 r3 r4; have r0 := blk_cell g2 0 rfl; have r1 := blk_cell g2 1 rfl; have r2 := blk_cell g2 2 rfl; have r3 := blk_cell g2 3 rfl; have r4 := blk_cell g2 4 rfl; have Hg2 := Lib.hid g2; have Hx2 := Lib.hid (Hx1.out.trans hx12); clear hx2 hx12 g2) | (go_at_call 13; refine (law_to t A c _).mono ?_; rintro _ w3 ⟨rfl, hx3⟩; have Hx3 := Lib.hid (Hx2.out.trans hx3); have g3 := Ext.blk hx3 Hg2.out; have Hg3 := Lib.hid g3; clear hx3 g3) | (go_at_call 16; refine (tr_May t A c (fun _ => True) _ (Hs.out.ext Hx3.out) hc Hwf.out).mono ?_; rw [hm]; rintro _ w4 ⟨rfl, hx4⟩; have g4 := hx4.blk Hg3.out; clear r0 r1 r2 r3 r4; have r0 := blk_cell g4 0 rfl; have r1 := blk_cell g4 1 rfl; have r2 := blk_cell g4 2 rfl; have r3 := blk_cell g4 3 rfl; have r4 := blk_cell g4 4 rfl; have Hg4 := Lib.hid g4; have Hx4 := Lib.hid (Hx3.out.trans hx4); clear hx4 g4))
    go_ret
    exact ⟨rfl, Hx4.out⟩
  by_cases hx30 : 30 < nx
  · go_enter Tryd.func8, Tryd.ntmps8
    go_wp2_with (first | (go_at_call 11; refine (law_lives _).mono ?_; rintro _ w1 ⟨rfl, hx1⟩; have g1 := hx1.blk (blk_new w _); have r0 := blk_cell g1 0 rfl; have r1 := blk_cell g1 1 rfl; have r2 := blk_cell g1 2 rfl; have r3 := blk_cell g1 3 rfl; have r4 := blk_cell g1 4 rfl; have Hg1 := Lib.hid g1; have Hx1 := Lib.hid (Keeps.trans ((Keeps.refl (fun _ => True) w).alloc _) hx1); clear hx1 g1) | (go_at_call 12; refine (law_few (some ⟨w1.heap.size, 0, none⟩) 1 1 [t] (fun _ => True) _ (one_tr t (blk_new w1 _) trivial hc ((Hs.out.ext Hx1.out).alloc _)) (by decide) (fun x hx => by simp at hx; subst hx; exact Hwf.out)).mono ?_; rw [hf]; rintro _ w2 ⟨rfl, hx2⟩; have hx12 := Keeps.trans ((Keeps.refl (fun _ => True) w1).alloc _) hx2; have g2 := Ext.blk hx12 Hg1.out; clear r0 r1 r2 r3 r4; have r0 := blk_cell g2 0 rfl; have r1 := blk_cell g2 1 rfl; have r2 := blk_cell g2 2 rfl; have r3 := blk_cell g2 3 rfl; have r4 := blk_cell g2 4 rfl; have Hg2 := Lib.hid g2; have Hx2 := Lib.hid (Hx1.out.trans hx12); clear hx2 hx12 g2) | (go_at_call 13; refine (law_to t A c _).mono ?_; rintro _ w3 ⟨rfl, hx3⟩; have Hx3 := Lib.hid (Hx2.out.trans hx3); have g3 := Ext.blk hx3 Hg2.out; have Hg3 := Lib.hid g3; clear hx3 g3) | (go_at_call 16; refine (tr_May t A c (fun _ => True) _ (Hs.out.ext Hx3.out) hc Hwf.out).mono ?_; rw [hm]; rintro _ w4 ⟨rfl, hx4⟩; have g4 := hx4.blk Hg3.out; clear r0 r1 r2 r3 r4; have r0 := blk_cell g4 0 rfl; have r1 := blk_cell g4 1 rfl; have r2 := blk_cell g4 2 rfl; have r3 := blk_cell g4 3 rfl; have r4 := blk_cell g4 4 rfl; have Hg4 := Lib.hid g4; have Hx4 := Lib.hid (Hx3.out.trans hx4); clear hx4 g4))
    go_ret
    exact ⟨rfl, Hx4.out⟩
  by_cases ha30 : 30 < na
  · go_enter Tryd.func8, Tryd.ntmps8
    go_wp2_with (first | (go_at_call 11; refine (law_lives _).mono ?_; rintro _ w1 ⟨rfl, hx1⟩; have g1 := hx1.blk (blk_new w _); have r0 := blk_cell g1 0 rfl; have r1 := blk_cell g1 1 rfl; have r2 := blk_cell g1 2 rfl; have r3 := blk_cell g1 3 rfl; have r4 := blk_cell g1 4 rfl; have Hg1 := Lib.hid g1; have Hx1 := Lib.hid (Keeps.trans ((Keeps.refl (fun _ => True) w).alloc _) hx1); clear hx1 g1) | (go_at_call 12; refine (law_few (some ⟨w1.heap.size, 0, none⟩) 1 1 [t] (fun _ => True) _ (one_tr t (blk_new w1 _) trivial hc ((Hs.out.ext Hx1.out).alloc _)) (by decide) (fun x hx => by simp at hx; subst hx; exact Hwf.out)).mono ?_; rw [hf]; rintro _ w2 ⟨rfl, hx2⟩; have hx12 := Keeps.trans ((Keeps.refl (fun _ => True) w1).alloc _) hx2; have g2 := Ext.blk hx12 Hg1.out; clear r0 r1 r2 r3 r4; have r0 := blk_cell g2 0 rfl; have r1 := blk_cell g2 1 rfl; have r2 := blk_cell g2 2 rfl; have r3 := blk_cell g2 3 rfl; have r4 := blk_cell g2 4 rfl; have Hg2 := Lib.hid g2; have Hx2 := Lib.hid (Hx1.out.trans hx12); clear hx2 hx12 g2) | (go_at_call 13; refine (law_to t A c _).mono ?_; rintro _ w3 ⟨rfl, hx3⟩; have Hx3 := Lib.hid (Hx2.out.trans hx3); have g3 := Ext.blk hx3 Hg2.out; have Hg3 := Lib.hid g3; clear hx3 g3) | (go_at_call 16; refine (tr_May t A c (fun _ => True) _ (Hs.out.ext Hx3.out) hc Hwf.out).mono ?_; rw [hm]; rintro _ w4 ⟨rfl, hx4⟩; have g4 := hx4.blk Hg3.out; clear r0 r1 r2 r3 r4; have r0 := blk_cell g4 0 rfl; have r1 := blk_cell g4 1 rfl; have r2 := blk_cell g4 2 rfl; have r3 := blk_cell g4 3 rfl; have r4 := blk_cell g4 4 rfl; have Hg4 := Lib.hid g4; have Hx4 := Lib.hid (Hx3.out.trans hx4); clear hx4 g4))
    go_ret
    exact ⟨rfl, Hx4.out⟩
  cases hso : all.any (fun e => bigE e 300)
  case true =>
    go_enter Tryd.func8, Tryd.ntmps8
    go_wp2_with (first | (go_at_call 11; refine (law_lives _).mono ?_; rintro _ w1 ⟨rfl, hx1⟩; have g1 := hx1.blk (blk_new w _); have r0 := blk_cell g1 0 rfl; have r1 := blk_cell g1 1 rfl; have r2 := blk_cell g1 2 rfl; have r3 := blk_cell g1 3 rfl; have r4 := blk_cell g1 4 rfl; have Hg1 := Lib.hid g1; have Hx1 := Lib.hid (Keeps.trans ((Keeps.refl (fun _ => True) w).alloc _) hx1); clear hx1 g1) | (go_at_call 12; refine (law_few (some ⟨w1.heap.size, 0, none⟩) 1 1 [t] (fun _ => True) _ (one_tr t (blk_new w1 _) trivial hc ((Hs.out.ext Hx1.out).alloc _)) (by decide) (fun x hx => by simp at hx; subst hx; exact Hwf.out)).mono ?_; rw [hf]; rintro _ w2 ⟨rfl, hx2⟩; have hx12 := Keeps.trans ((Keeps.refl (fun _ => True) w1).alloc _) hx2; have g2 := Ext.blk hx12 Hg1.out; clear r0 r1 r2 r3 r4; have r0 := blk_cell g2 0 rfl; have r1 := blk_cell g2 1 rfl; have r2 := blk_cell g2 2 rfl; have r3 := blk_cell g2 3 rfl; have r4 := blk_cell g2 4 rfl; have Hg2 := Lib.hid g2; have Hx2 := Lib.hid (Hx1.out.trans hx12); clear hx2 hx12 g2) | (go_at_call 13; refine (law_to t A c _).mono ?_; rintro _ w3 ⟨rfl, hx3⟩; have Hx3 := Lib.hid (Hx2.out.trans hx3); have g3 := Ext.blk hx3 Hg2.out; have Hg3 := Lib.hid g3; clear hx3 g3) | (go_at_call 16; refine (tr_May t A c (fun _ => True) _ (Hs.out.ext Hx3.out) hc Hwf.out).mono ?_; rw [hm]; rintro _ w4 ⟨rfl, hx4⟩; have g4 := hx4.blk Hg3.out; clear r0 r1 r2 r3 r4; have r0 := blk_cell g4 0 rfl; have r1 := blk_cell g4 1 rfl; have r2 := blk_cell g4 2 rfl; have r3 := blk_cell g4 3 rfl; have r4 := blk_cell g4 4 rfl; have Hg4 := Lib.hid g4; have Hx4 := Lib.hid (Hx3.out.trans hx4); clear hx4 g4) | (go_at_call 21; refine (HSo.out _ Hx4.out).mono ?_; rw [hso]; rintro _ w5 ⟨rfl, hx5⟩; have g5 := Ext.blk hx5 Hg4.out; clear r0 r1 r2 r3 r4; have r0 := blk_cell g5 0 rfl; have r1 := blk_cell g5 1 rfl; have r2 := blk_cell g5 2 rfl; have r3 := blk_cell g5 3 rfl; have r4 := blk_cell g5 4 rfl; have Hg5 := Lib.hid g5; have Hx5 := Lib.hid (Hx4.out.trans hx5); clear hx5 g5))
    go_ret
    exact ⟨rfl, Hx5.out⟩
  by_cases h300 : 300 < s.size
  · go_enter Tryd.func8, Tryd.ntmps8
    go_wp2_with (first | (go_at_call 11; refine (law_lives _).mono ?_; rintro _ w1 ⟨rfl, hx1⟩; have g1 := hx1.blk (blk_new w _); have r0 := blk_cell g1 0 rfl; have r1 := blk_cell g1 1 rfl; have r2 := blk_cell g1 2 rfl; have r3 := blk_cell g1 3 rfl; have r4 := blk_cell g1 4 rfl; have Hg1 := Lib.hid g1; have Hx1 := Lib.hid (Keeps.trans ((Keeps.refl (fun _ => True) w).alloc _) hx1); clear hx1 g1) | (go_at_call 12; refine (law_few (some ⟨w1.heap.size, 0, none⟩) 1 1 [t] (fun _ => True) _ (one_tr t (blk_new w1 _) trivial hc ((Hs.out.ext Hx1.out).alloc _)) (by decide) (fun x hx => by simp at hx; subst hx; exact Hwf.out)).mono ?_; rw [hf]; rintro _ w2 ⟨rfl, hx2⟩; have hx12 := Keeps.trans ((Keeps.refl (fun _ => True) w1).alloc _) hx2; have g2 := Ext.blk hx12 Hg1.out; clear r0 r1 r2 r3 r4; have r0 := blk_cell g2 0 rfl; have r1 := blk_cell g2 1 rfl; have r2 := blk_cell g2 2 rfl; have r3 := blk_cell g2 3 rfl; have r4 := blk_cell g2 4 rfl; have Hg2 := Lib.hid g2; have Hx2 := Lib.hid (Hx1.out.trans hx12); clear hx2 hx12 g2) | (go_at_call 13; refine (law_to t A c _).mono ?_; rintro _ w3 ⟨rfl, hx3⟩; have Hx3 := Lib.hid (Hx2.out.trans hx3); have g3 := Ext.blk hx3 Hg2.out; have Hg3 := Lib.hid g3; clear hx3 g3) | (go_at_call 16; refine (tr_May t A c (fun _ => True) _ (Hs.out.ext Hx3.out) hc Hwf.out).mono ?_; rw [hm]; rintro _ w4 ⟨rfl, hx4⟩; have g4 := hx4.blk Hg3.out; clear r0 r1 r2 r3 r4; have r0 := blk_cell g4 0 rfl; have r1 := blk_cell g4 1 rfl; have r2 := blk_cell g4 2 rfl; have r3 := blk_cell g4 3 rfl; have r4 := blk_cell g4 4 rfl; have Hg4 := Lib.hid g4; have Hx4 := Lib.hid (Hx3.out.trans hx4); clear hx4 g4) | (go_at_call 21; refine (HSo.out _ Hx4.out).mono ?_; rw [hso]; rintro _ w5 ⟨rfl, hx5⟩; have g5 := Ext.blk hx5 Hg4.out; clear r0 r1 r2 r3 r4; have r0 := blk_cell g5 0 rfl; have r1 := blk_cell g5 1 rfl; have r2 := blk_cell g5 2 rfl; have r3 := blk_cell g5 3 rfl; have r4 := blk_cell g5 4 rfl; have Hg5 := Lib.hid g5; have Hx5 := Lib.hid (Hx4.out.trans hx5); clear hx5 g5))
    go_ret
    exact ⟨rfl, Hx5.out⟩
  have Hsm := Lib.hid (show ∀ e ∈ all, EvSm e from fun e he => evSm_of (by have := List.any_eq_false.1 hso e he; simpa using this) (by omega))
  go_enter Tryd.func8, Tryd.ntmps8
  go_upto_region 5 with (first | (go_at_call 11; refine (law_lives _).mono ?_; rintro _ w1 ⟨rfl, hx1⟩; have g1 := hx1.blk (blk_new w _); have r0 := blk_cell g1 0 rfl; have r1 := blk_cell g1 1 rfl; have r2 := blk_cell g1 2 rfl; have r3 := blk_cell g1 3 rfl; have r4 := blk_cell g1 4 rfl; have Hg1 := Lib.hid g1; have Hx1 := Lib.hid (Keeps.trans ((Keeps.refl (fun _ => True) w).alloc _) hx1); clear hx1 g1) | (go_at_call 12; refine (law_few (some ⟨w1.heap.size, 0, none⟩) 1 1 [t] (fun _ => True) _ (one_tr t (blk_new w1 _) trivial hc ((Hs.out.ext Hx1.out).alloc _)) (by decide) (fun x hx => by simp at hx; subst hx; exact Hwf.out)).mono ?_; rw [hf]; rintro _ w2 ⟨rfl, hx2⟩; have hx12 := Keeps.trans ((Keeps.refl (fun _ => True) w1).alloc _) hx2; have g2 := Ext.blk hx12 Hg1.out; clear r0 r1 r2 r3 r4; have r0 := blk_cell g2 0 rfl; have r1 := blk_cell g2 1 rfl; have r2 := blk_cell g2 2 rfl; have r3 := blk_cell g2 3 rfl; have r4 := blk_cell g2 4 rfl; have Hg2 := Lib.hid g2; have Hx2 := Lib.hid (Hx1.out.trans hx12); clear hx2 hx12 g2) | (go_at_call 13; refine (law_to t A c _).mono ?_; rintro _ w3 ⟨rfl, hx3⟩; have Hx3 := Lib.hid (Hx2.out.trans hx3); have g3 := Ext.blk hx3 Hg2.out; have Hg3 := Lib.hid g3; clear hx3 g3) | (go_at_call 16; refine (tr_May t A c (fun _ => True) _ (Hs.out.ext Hx3.out) hc Hwf.out).mono ?_; rw [hm]; rintro _ w4 ⟨rfl, hx4⟩; have g4 := hx4.blk Hg3.out; clear r0 r1 r2 r3 r4; have r0 := blk_cell g4 0 rfl; have r1 := blk_cell g4 1 rfl; have r2 := blk_cell g4 2 rfl; have r3 := blk_cell g4 3 rfl; have r4 := blk_cell g4 4 rfl; have Hg4 := Lib.hid g4; have Hx4 := Lib.hid (Hx3.out.trans hx4); clear hx4 g4) | (go_at_call 21; refine (HSo.out _ Hx4.out).mono ?_; rw [hso]; rintro _ w5 ⟨rfl, hx5⟩; have g5 := Ext.blk hx5 Hg4.out; clear r0 r1 r2 r3 r4; have r0 := blk_cell g5 0 rfl; have r1 := blk_cell g5 1 rfl; have r2 := blk_cell g5 2 rfl; have r3 := blk_cell g5 3 rfl; have r4 := blk_cell g5 4 rfl; have Hg5 := Lib.hid g5; have Hx5 := Lib.hid (Hx4.out.trans hx5); clear hx5 g5))
  clear r0 r1 r2 r3 r4 hso Hg4 Hx4 Hg3 Hx3 Hg2 Hx2 Hg1 Hx1
  go_wp2_with fail
  go_loopw [9] (fun i wr => ∃ k : Nat, k ≤ na ∧ i = .int .i64 k ∧ ApartTo all k ∧ Ext w5 wr) (fun i _ => na - (intOf i).toNat)
  case atStart => exact ⟨0, Nat.zero_le _, rfl, (fun i _ hi => absurd hi (by omega)), Keeps.refl _ _⟩
  case round =>
    obtain ⟨k, hk, rfl, hap, hx⟩ := hrel
    have Hap := Lib.hid hap
    have Hx := Lib.hid hx
    obtain ⟨W1, hW1⟩ : ∃ W1, W1 = wr := ⟨_, rfl⟩
    rw [← hW1] at Hx ⊢
    clear hap hx hW1
    by_cases hlt : k < na
    · obtain ⟨bx, ox, a, hA, hbx, _, ha, a0, a1, a2, a3, a4, a5, a6, a7⟩ := ((Hsa.out.ext Hx5.out).ext Hx.out).ev hlt
      subst hA
      have Ha := Lib.hid ha
      have i0 : (0 : Int) ≤ (k : Int) := by omega
      have i1 : (k : Int) < (na : Int) := by omega
      clear ha
      go_wp2_with fail
      go_loopw [10] (fun i wr' => ∃ j : Nat, j ≤ k ∧ i = .int .i64 j ∧ (∀ (q : Nat) (b : Ev), q < j → all[q]? = some b → sameI a b = false) ∧ Ext W1 wr') (fun i _ => k - (intOf i).toNat)
      case atStart => exact ⟨0, Nat.zero_le _, rfl, (fun q _ hq => absurd hq (by omega)), Keeps.refl _ _⟩
      case round =>
        obtain ⟨j, hj, rfl, hno, hx2⟩ := hrel
        have Hno := Lib.hid hno
        have Hx2 := Lib.hid hx2
        clear hno hx2
        by_cases hjk : j < k
        · obtain ⟨by_, oy, b, hA2, hby, _, hb, b0, b1, b2, b3, b4, b5, b6, b7⟩ := ((Hsa.out.ext Hx5.out).ext Hx.out).ev (show j < na by omega)
          have e3 := Option.some.inj hA2
          injection e3 with e4 e5
          subst e4 e5
          have Hb := Lib.hid hb
          have j0 : (0 : Int) ≤ (j : Int) := by omega
          have j1 : (j : Int) < (na : Int) := by omega
          have HSa := Lib.hid (fun W : World => ev_SameI a b W)
          obtain ⟨q, hq⟩ : ∃ q, sameI a b = q := ⟨_, rfl⟩
          rw [hq] at HSa
          have Hq := Lib.hid hq
          clear hA2 hb hq
          go_wp2_with fail
          refine wp_region_ext W1 Hx2.out (by kernel_rfl) (by kernel_rfl) ?_
          have hcell := fun (y : XW W1) => y.cell
          repeat (go_big_quiet_step (first | (go_at_call 28; with_reducible exact ext_calls (HSa.out _))))
          refine wpQuiet_nil ?_
          rintro _ ⟨y, rfl⟩
          have Hy := Lib.hid y.h
          cases q
          · go_wp2_with fail
            go_roundw
            case rel => exact ⟨j + 1, by omega, by go_num, (fun q b' hq' hb' => by
              rcases Nat.lt_or_ge q j with h1 | h1
              · exact Hno.out q b' h1 hb'
              · obtain rfl : q = j := by omega
                obtain rfl : b = b' := Option.some.inj (Hb.out.symm.trans hb')
                exact Hq.out), Hy.out⟩
            case measure => simp [intOf]; omega
          · go_wp2_with fail
            go_ret
            exact ⟨rfl, (Hx5.out.trans Hx.out).trans Hy.out⟩
        · obtain rfl : j = k := by omega
          have Hap2 := Lib.hid (apart_step Hap.out Ha.out Hno.out)
          clear a0 a1 a2 a3 a4 a5 a6 a7
          go_wp2_with fail
          go_roundw
          case rel => exact ⟨j + 1, by omega, by go_num, Hap2.out, Hx.out.trans Hx2.out⟩
          case measure => simp [intOf]; omega
    · obtain rfl : k = na := by omega
      have Hapt := Lib.hid (apart_all Hap.out (Nat.le_of_eq Hsa.out.1))
      obtain ⟨X, hX⟩ : ∃ X, X = W1 := ⟨_, rfl⟩
      rw [← hX] at Hx ⊢
      have hgt := Ext.blk Hx.out Hg5.out
      have HxX := Lib.hid (Hx5.out.trans Hx.out)
      have Hgt := Lib.hid hgt
      have r0 := blk_cell hgt 0 rfl
      have r1 := blk_cell hgt 1 rfl
      have r2 := blk_cell hgt 2 rfl
      have r3 := blk_cell hgt 3 rfl
      have r4 := blk_cell hgt 4 rfl
      have hwX : w.heap.size < X.heap.size := (Array.getElem?_eq_some_iff.1 hgt).1
      have Hm := Lib.hid hm
      have hpt := mayT_parts hm
      have hone := hpt.one
      have hfew := hpt.few
      have hsz5 := Hx5.out.size
      have hszx := HxX.out.size
      clear hX hgt hm hf hpt Hap Hx Hx5 Hg5
      go_upto_region 14 with (first | (go_at_call 13; refine (law_to t A c _).mono ?_; rintro _ w7 ⟨rfl, hx7⟩; have Hx7 := Lib.hid hx7; clear hx7) | (go_at_call 27; refine (new_ok (some ⟨w7.heap.size, 0, none⟩) 1 1 [t] (fun _ => True) _ (one_tr t (blk_new w7 _) trivial hc (((Hs.out.ext HxX.out).ext Hx7.out).alloc _)) (by decide) (fun y hy => by simp at hy; subst hy; exact Hwf.out) (by simp [Hm.out]) (one_clash t)).mono ?_; rintro _ w8 ⟨b, m, lim, v, rfl, hmw, hbk, hx8⟩; have hx9 := Keeps.trans (Hx7.out.alloc _) hx8; have HmX := Lib.hid (show X.heap.size ≤ m from Nat.le_trans Hx7.out.size (Nat.le_trans (by simp) hmw)); have Hbk := Lib.hid hbk; have g9 := Ext.blk hx9 Hgt.out; clear r0 r1 r2 r3 r4; have r0 := blk_cell g9 0 rfl; have r1 := blk_cell g9 1 rfl; have r2 := blk_cell g9 2 rfl; have r3 := blk_cell g9 3 rfl; have r4 := blk_cell g9 4 rfl; have Hx8 := Lib.hid hx9; clear hbk hmw hx8 hx9 g9))
      go_upto_region 15 with (first | (go_at_call 13; refine (law_to t A c _).mono ?_; rintro _ w9 ⟨rfl, hx9⟩; have Hx9 := Lib.hid hx9; clear hx9) | (go_at_call 27; refine (new_ok (some ⟨w9.heap.size, 0, none⟩) 1 1 [t] (fun _ => True) _ (one_tr t (blk_new w9 _) trivial hc ((((Hs.out.ext HxX.out).ext Hx8.out).ext Hx9.out).alloc _)) (by decide) (fun y hy => by simp at hy; subst hy; exact Hwf.out) (by simp [Hm.out]) (one_clash _)).mono ?_; rintro _ w10 ⟨b', m', lim', v', rfl, hmw, hbk, hx10⟩; have hx11 := Keeps.trans (Hx9.out.alloc _) hx10; have HT := Lib.hid (show TwoAt X w10 b m lim v [t] b' m' lim' v' [t] [] [] (fun _ => []) (fun _ => []) from ⟨Hbk.out.ext hx11, hbk, by have := Hbk.out.lw; have h1 := Hx9.out.size; have h2 : w9.heap.size ≤ m' := Nat.le_trans (by simp) hmw; omega, (fun _ hp => absurd hp (by simp)), (fun _ hp => absurd hp (by simp)), Hx8.out.trans hx11, HmX.out⟩); clear hbk hmw hx10 hx11 r0 r1 r2 r3 r4))
      go_wp2_with fail
      go_loopw [15] (fun i wr => ∃ (k : Nat) (outer outer' : List (ByteArray × Nat)), k ≤ nx ∧ i = .int .i64 k ∧ TwoAt X wr b m lim v [t] b' m' lim' v' [t] outer outer' (xsOf (hadOf [t] (expL t s (x.take k)))) (xsOf (hadOf [t] (expL t s (x.reverse.take k))))) (fun i _ => nx - (intOf i).toNat)
      case atStart => exact ⟨0, [], [], Nat.zero_le _, rfl, HT.out⟩
      case round =>
        obtain ⟨k2, outer, outer', hk2, rfl, hat⟩ := hrel
        have Hat := Lib.hid hat
        have Hx := Lib.hid hat.ext
        have hszr := hat.ext.size
        clear hat
        by_cases hlt2 : k2 < nx
        · obtain ⟨J, hJ⟩ : ∃ J, J = nx - 1 - k2 := ⟨_, rfl⟩
          have hJn : J < nx := by omega
          have hJ2 : (nx : Int) - 1 - (k2 : Int) = (J : Int) := by omega
          obtain ⟨bx, ox, e, hA, hbx, hox, he, _, d1, d2⟩ := (Hsx.out.ext HxX.out).xp hlt2
          obtain ⟨by_, oy, y, hA2, hby, _, hy, c0, c1, c2⟩ := (Hsx.out.ext HxX.out).xp hJn
          subst hA
          have e3 := Option.some.inj hA2
          injection e3 with e4 e5
          subst e4 e5
          have He := Lib.hid he
          have Hye := Lib.hid (show x.reverse[k2]? = some y by rw [List.getElem?_reverse (by have := Hlx.out; omega), Hlx.out, ← hJ]; exact hy)
          have hp1 := Hxt.out e (List.mem_of_getElem? he)
          have hp2 : e.person.size < maxLen := lt_maxLen hp1
          have hp3 := Hxt.out y (List.mem_of_getElem? hy)
          have hp4 : y.person.size < maxLen := lt_maxLen hp3
          have i0 : (0 : Int) ≤ (k2 : Int) := by omega
          have i1 : (k2 : Int) < (nx : Int) := by omega
          have i2 : (0 : Int) ≤ (J : Int) := by omega
          have i3 : (J : Int) < (nx : Int) := by omega
          have y1 := (Hx.out.cell (p := ⟨bx, ox + k2 * 3 + 1, none⟩) hbx trivial).trans d1
          have v0 := (Hx.out.cell (p := ⟨bx, ox + J * 3, none⟩) hbx trivial).trans c0
          have v1 := (Hx.out.cell (p := ⟨bx, ox + J * 3 + 1, none⟩) hbx trivial).trans c1
          have v2 := (Hx.out.cell (p := ⟨bx, ox + J * 3 + 2, none⟩) hbx trivial).trans c2
          have Hd1 := Lib.hid d1
          have Hd2 := Lib.hid d2
          clear he hy hA2 d1 d2 c0 c1 c2 hJ
          go_upto_region 21 with fail
          obtain ⟨gy, hgy⟩ : ∃ gy, gy = wr.heap.size := ⟨_, rfl⟩
          obtain ⟨Z, hZ⟩ : ∃ Z, Z = wr.alloc (Obj.cells #[.string y.trial, .string y.person, .int .i64 y.tick] 43) := ⟨_, rfl⟩
          rw [← hZ, ← hgy]
          have HxZ := Lib.hid (show Ext wr Z by rw [hZ]; exact (Keeps.refl _ _).alloc _)
          have hgZ : Z.heap[gy]? = some (.cells #[.string y.trial, .string y.person, .int .i64 y.tick] 43) := by rw [hZ, hgy]; exact blk_new _ _
          have HgZ := Lib.hid hgZ
          have u1 := blk_cell hgZ 1 rfl
          have hbxr : bx < wr.heap.size := by omega
          have x1 := (HxZ.out.cell (p := ⟨bx, ox + k2 * 3 + 1, none⟩) hbxr trivial).trans y1
          have hgyZ : gy < Z.heap.size := (Array.getElem?_eq_some_iff.1 hgZ).1
          have hbxZ : bx < Z.heap.size := by omega
          have Hgyr := Lib.hid hgy
          have ew : IntKind.i64.wrap ((e.person.size : Int) + (y.person.size : Int)) = (e.person.size : Int) + (y.person.size : Int) := IntWalk.i64_in _ (by omega)
          clear hZ hgZ hgy y1 v0 v1 v2
          by_cases h9 : 300 < e.person.size + y.person.size
          · have e2 : decide ((300 : Int) < IntKind.i64.wrap ((e.person.size : Int) + (y.person.size : Int))) = true := by rw [ew]; simp; omega
            clear ew
            go_quiet (fail)
            clear e2
            go_wp2_with fail
            go_ret
            exact ⟨rfl, ((HxX.out.trans Hx.out).trans HxZ.out).drewN _⟩
          have e2 : decide ((300 : Int) < IntKind.i64.wrap ((e.person.size : Int) + (y.person.size : Int))) = false := by rw [ew]; simp; omega
          clear ew
          go_quiet (fail)
          obtain ⟨V, hV⟩ : ∃ V, V = Z.drewN nq := ⟨_, rfl⟩
          rw [← hV]
          have HxV := Lib.hid (show Ext wr V by rw [hV]; exact HxZ.out.drewN _)
          have hgV : V.heap[gy]? = some (.cells #[.string y.trial, .string y.person, .int .i64 y.tick] 43) := by rw [hV]; exact HgZ.out
          have HgV := Lib.hid hgV
          have HatV := Lib.hid (Hat.out.on HxV.out)
          have x2 : V.cell? ⟨bx, ox + k2 * 3 + 1, none⟩ = some (.string e.person) := by rw [hV]; exact x1
          have hbxV : bx < V.heap.size := by rw [hV]; exact hbxZ
          have hgyV : gy < V.heap.size := (Array.getElem?_eq_some_iff.1 hgV).1
          clear e2 hV hgV x1 u1 hbxZ hgyZ
          cases hqa : (e.person == s) <;> have hqa' := hqa <;> rw [beq_toListBytes] at hqa'
          · have HA := Lib.hid (fun (W : World) (h : Ext V W) => bk_ExposeL b m lim v outer t s x k2 e W He.out hqa (HatV.out.bk.ext h) Hwf.out hp2)
            have Hor := Lib.hid (Old.of_ext HatV.out.ext)
            clear hqa
            go_upto_region 24 with fail
            have d1 := Hd1.out
            have d2 := Hd2.out
            have r0 := blk_cell Hgt.out 0 rfl
            clear x2
            go_region_held3 (fun w' => X.heap.size ≤ w'.heap.size ∧ ∀ p : Addr, p.block < X.heap.size → w'.cell? p = X.cell? p) (repeat (first | with_reducible assumption | with_reducible exact Hor.out | with_reducible refine Old.drew ?_)) ((go_at_call 24; (with_reducible refine (HA.out _ (by repeat (first | with_reducible exact Keeps.refl _ _ | with_reducible refine Keeps.drew ?_ | with_reducible refine Keeps.drewN ?_ _ | with_reducible refine Keeps.alloc ?_ _))).mono ?_); rintro _ w11 ⟨⟨qq, rfl⟩, o2, hb11, hk11, ho11⟩; have hat11 := (HatV.out.on (by repeat (first | with_reducible exact Keeps.refl _ _ | with_reducible refine Keeps.drew ?_ | with_reducible refine Keeps.drewN ?_ _ | with_reducible refine Keeps.alloc ?_ _))).stepA hb11 hk11 ho11; have hg11 := hk11.blk HgV.out ⟨fun h => by have := Hat.out.bk.mb; have := Hat.out.bk.bl; have := Hat.out.bk.lw; have := Hgyr.out; omega, fun p hp h => by have := Hat.out.bk.in_ p hp; have := Hgyr.out; omega⟩; have hor11 : Old X w11 := Old.of_ext hat11.ext))
            all_goals
              obtain ⟨W, hW⟩ : ∃ W, W = w11 := ⟨_, rfl⟩
              have HatW := Lib.hid hat11
              have HgW := Lib.hid hg11
              clear hb11 hk11 ho11 hat11 hg11 hor11 d1 d2 r0
              rw [← hW] at HatW HgW ⊢
              clear hW
              have gW := HgW.out
              have HtW := Ext.blk HatW.out.ext Hgt.out
              have u1 := blk_cell gW 1 rfl
              have u2 := blk_cell gW 2 rfl
              have r0 := blk_cell HtW 0 rfl
              have hgyW : gy < W.heap.size := (Array.getElem?_eq_some_iff.1 gW).1
              have hwW : w.heap.size < W.heap.size := (Array.getElem?_eq_some_iff.1 HtW).1
              clear gW HtW
              cases hqb : (y.person == s) <;> have hqb' := hqb <;> rw [beq_toListBytes] at hqb'
              · have HB := Lib.hid (bk_ExposeL b' m' lim' v' outer' t s x.reverse k2 y W Hye.out hqb HatW.out.bk' Hwf.out hp4)
                clear hqb
                go_wp2_with (go_at_call 24; refine HB.out.mono ?_; rintro _ w12 ⟨⟨qq2, rfl⟩, o3, hb12, hk12, ho12⟩; have Hat12 := Lib.hid (HatW.out.stepB hb12 hk12 ho12); clear hb12 hk12 ho12)
                go_roundw
                case rel => exact ⟨k2 + 1, o2, o3, by omega, by go_num, Hat12.out⟩
                case measure => simp [intOf]; omega
              · have Hsk := Lib.hid (expL_skip (t := t) Hye.out hqb)
                clear hqb
                go_wp2_with fail
                go_roundw
                case rel => exact ⟨k2 + 1, o2, outer', by omega, by go_num, by rw [Hsk.out]; exact HatW.out⟩
                case measure => simp [intOf]; omega
          · obtain ⟨W, hW⟩ : ∃ W, W = V := ⟨_, rfl⟩
            obtain ⟨o2, ho2⟩ : ∃ o2, o2 = outer := ⟨_, rfl⟩
            have HatW := HatV
            rw [← expL_skip (t := t) He.out hqa, ← ho2] at HatW
            have HgW := HgV
            rw [← hW] at HatW HgW x2 hbxV hgyV ⊢
            clear hW ho2 hqa
            have gW := HgW.out
            have HtW := Ext.blk HatW.out.ext Hgt.out
            have u1 := blk_cell gW 1 rfl
            have u2 := blk_cell gW 2 rfl
            have r0 := blk_cell HtW 0 rfl
            have hgyW : gy < W.heap.size := (Array.getElem?_eq_some_iff.1 gW).1
            have hwW : w.heap.size < W.heap.size := (Array.getElem?_eq_some_iff.1 HtW).1
            clear gW HtW
            cases hqb : (y.person == s) <;> have hqb' := hqb <;> rw [beq_toListBytes] at hqb'
            · have HB := Lib.hid (bk_ExposeL b' m' lim' v' outer' t s x.reverse k2 y W Hye.out hqb HatW.out.bk' Hwf.out hp4)
              clear hqb
              go_wp2_with (go_at_call 24; refine HB.out.mono ?_; rintro _ w12 ⟨⟨qq2, rfl⟩, o3, hb12, hk12, ho12⟩; have Hat12 := Lib.hid (HatW.out.stepB hb12 hk12 ho12); clear hb12 hk12 ho12)
              go_roundw
              case rel => exact ⟨k2 + 1, o2, o3, by omega, by go_num, Hat12.out⟩
              case measure => simp [intOf]; omega
            · have Hsk := Lib.hid (expL_skip (t := t) Hye.out hqb)
              clear hqb
              go_wp2_with fail
              go_roundw
              case rel => exact ⟨k2 + 1, o2, outer', by omega, by go_num, by rw [Hsk.out]; exact HatW.out⟩
              case measure => simp [intOf]; omega
        · obtain rfl : k2 = nx := by omega
          have HF := Lib.hid (List.take_of_length_le (Nat.le_of_eq Hlx.out))
          have HFr := Lib.hid (List.take_of_length_le (l := x.reverse) (i := k2) (by rw [List.length_reverse, Hlx.out]; exact Nat.le_refl _))
          have hatE := Hat.out
          rw [HF.out, HFr.out] at hatE
          have HatE := Lib.hid hatE
          obtain ⟨V, hV⟩ : ∃ V, V = wr := ⟨_, rfl⟩
          rw [← hV] at HatE Hx ⊢
          obtain ⟨i0, hi0, hz0, hz1, hz2⟩ := info_part3 info_evx
          clear hatE hV Hat hszr
          go_wp2_with fail
          go_loopw [17, 18] (fun bv i wr => ∃ (j q : Nat) (z : Int) (B : Option Addr) (cb : Nat), j ≤ k ∧ q ≤ k - j ∧ z = (j : Int) - 1 ∧ i = .int .i64 z ∧ bv = .slice B q cb ∧ Own evR 62 (fun _ => True) wr V.heap.size (.slice B q cb) q ((all.drop j).filter (fun e => !(e.person == s))).reverse ∧ Ext V wr) (fun _ i _ => (intOf i + 1).toNat)
          case atStart =>
            refine ⟨k, 0, _, none, 0, Nat.le_refl _, Nat.zero_le _, rfl, rfl, rfl, ?_, Keeps.refl _ _⟩
            rw [List.drop_eq_nil_of_le (Nat.le_of_eq Hsa.out.1)]
            exact Own.nil_
          case round =>
            obtain ⟨j, q, z, B, cb, hj, hq, hz, rfl, rfl, hown, hx⟩ := hrel
            have Hown := Lib.hid hown
            have Hxr := Lib.hid hx
            have hsz := hx.size
            have Hz := Lib.hid hz
            clear hown hx hz
            rcases Nat.eq_zero_or_pos j with hj0 | hpos
            · have hown9 := Hown.out
              rw [hj0, List.drop_zero] at hown9
              have hm1 : ¬ (0 : Int) ≤ z := by have := Hz.out; omega
              have hslb : Sl evR (fun _ => True) wr B q ((all.filter (fun e => !(e.person == s))).reverse) := hown9.sl (fun _ _ _ _ => trivial) (fun _ _ _ => trivial)
              have hxm : ∀ y ∈ x, y.person.size < maxLen := fun y hy => lt_maxLen (Hxt.out y hy)
              have HH := Lib.hid (expL_ok (t := t) (s := s) hxm)
              have HH2 := Lib.hid (expL_ok (t := t) (s := s) (x := x.reverse) (fun y hy => hxm y (List.mem_reverse.1 hy)))
              have hl1 := had30 t s (x := x) (n := 30) (by have := Hlx.out; omega)
              have hl2 := had30 t s (x := x.reverse) (n := 30) (by rw [List.length_reverse]; have := Hlx.out; omega)
              have hsame := recount_same (t := t) (s := s) hxm Hapt.out
              have HatR := Lib.hid (HatE.out.on Hxr.out)
              have hrl : (repL [t] (hadOf [t] (expL t s x)) t.name all).length = t.arms.length := by rw [repL_some (i := 0) (by simp [List.findIdx?_cons, beq_bytes.2 (rfl : t.name = t.name)]) rfl, rowsE_len]
              have Hrat := Lib.hid (fun (q : Nat) (a : ByteArray) (h : t.arms[q]? = some a) => show ∃ P B Z, (repL [t] (hadOf [t] (expL t s x)) t.name all)[q]? = some ⟨a, P, B, Z⟩ by rw [repL_some (i := 0) (by simp [List.findIdx?_cons, beq_bytes.2 (rfl : t.name = t.name)]) rfl]; exact ⟨_, _, _, rowsE_at h⟩)
              have HR := Lib.hid (fun (W : World) (h : Ext wr W) => bk_Report_any b m lim v outer [t] _ t.name W (HatR.out.bk.ext h) (by simp) (by simp [Hm.out]) (fun y hy => by simp at hy; subst hy; exact Hwf.out) HH.out (by omega) Aa k ca all ok ((Hsa.out.ext (HxX.out.trans HatR.out.ext)).ext h) (by omega) Hsm.out ((Hmx.out.ext (HxX.out.trans HatR.out.ext)).ext h))
              have HR2 := Lib.hid (fun (W : World) (h : Ext wr W) => bk_Report_any b' m' lim' v' outer' [t] _ t.name W (HatR.out.bk'.ext h) (by simp) (by simp [Hm.out]) (fun y hy => by simp at hy; subst hy; exact Hwf.out) HH2.out (by omega) B q cb _ (fun _ => True) (hslb.ext h) (by omega) (fun e he => Hsm.out e (List.mem_filter.1 (List.mem_reverse.1 he)).1) ((Hmx.out.ext (HxX.out.trans HatR.out.ext)).ext h))
              rw [← hsame, hrl] at HR2
              rw [hrl] at HR
              obtain ⟨R, hR⟩ : ∃ R, R = repL [t] (hadOf [t] (expL t s x)) t.name all := ⟨_, rfl⟩
              rw [← hR] at HR HR2 Hrat
              obtain ⟨V2, hV2⟩ : ∃ V2, V2 = wr := ⟨_, rfl⟩
              rw [← hV2] at HR HR2 HatR Hxr ⊢
              have HxE := Lib.hid (HxX.out.trans HatR.out.ext)
              have gtV := Ext.blk HatR.out.ext Hgt.out
              have HgV := Lib.hid gtV
              have r0 := blk_cell gtV 0 rfl
              have r4 := blk_cell gtV 4 rfl
              have hltV : w.heap.size < V2.heap.size := (Array.getElem?_eq_some_iff.1 gtV).1
              clear hown9 hj0 hslb hxm hl1 hl2 hsame hrl hR hV2 gtV HatR HatE
              go_upto_region 33 with fail
              go_region_held3 (fun w' => V2.heap.size ≤ w'.heap.size ∧ ∀ p : Addr, p.block < V2.heap.size → w'.cell? p = V2.cell? p) (repeat (first | with_reducible assumption | with_reducible exact Old.refl _ | with_reducible refine Old.drew ?_)) (first
                  | (go_at_call 25; (with_reducible refine (HR.out _ (by repeat (first | with_reducible exact Keeps.refl _ _ | with_reducible refine Keeps.drew ?_ | with_reducible refine Keeps.drewN ?_ _ | with_reducible refine Keeps.alloc ?_ _))).mono ?_); rintro _ w13 ⟨G1, c1, rfl, hs1, hx13⟩; have hy13 : Ext V2 w13 := Keeps.trans (by repeat (first | with_reducible exact Keeps.refl _ _ | with_reducible refine Keeps.drew ?_ | with_reducible refine Keeps.drewN ?_ _ | with_reducible refine Keeps.alloc ?_ _)) hx13; have ho13 : Old V2 w13 := Old.of_ext hy13)
                  | (go_at_call 25; (with_reducible refine (HR2.out _ (by repeat (first | with_reducible exact hy13 | with_reducible exact Keeps.refl _ _ | with_reducible refine Keeps.drew ?_ | with_reducible refine Keeps.drewN ?_ _ | with_reducible refine Keeps.alloc ?_ _))).mono ?_); rintro _ w14 ⟨G2, c2, rfl, hs2, hx14⟩; have hz14 : Ext w13 w14 := Keeps.trans (by repeat (first | with_reducible exact Keeps.refl _ _ | with_reducible refine Keeps.drew ?_ | with_reducible refine Keeps.drewN ?_ _ | with_reducible refine Keeps.alloc ?_ _)) hx14; have hy14 : Ext V2 w14 := Keeps.trans hy13 hz14; have ho14 : Old V2 w14 := Old.of_ext hy14))
              all_goals
                have Hs1 := Lib.hid (hs1.ext hz14)
                have Hs2 := Lib.hid hs2
                have Hx14 := Lib.hid hy14
                clear hs1 hx13 hy13 ho13 hs2 hx14 hz14 hy14 ho14
                go_wp2_with fail
                go_loopw [21] (fun i wr => ∃ q : Nat, q ≤ t.arms.length ∧ i = .int .i64 q ∧ Ext w14 wr) (fun i _ => t.arms.length - (intOf i).toNat)
                case atStart => exact ⟨0, Nat.zero_le _, rfl, Keeps.refl _ _⟩
                case round =>
                  obtain ⟨q2, hq2, rfl, hx⟩ := hrel
                  have Hxq := Lib.hid hx
                  clear hx
                  by_cases hql : q2 < t.arms.length
                  · obtain ⟨b1, o1, r, rfl, hb1, _, hr, z0, z1, z2, z3⟩ := (Hs1.out.ext Hxq.out).rw hql
                    obtain ⟨b2, o2, r2, rfl, hb2, _, hr2, v0, v1, v2, v3⟩ := (Hs2.out.ext Hxq.out).rw hql
                    obtain rfl : r = r2 := Option.some.inj (hr.symm.trans hr2)
                    obtain ⟨ba, oa, a, hAA, hba, _, ha, da⟩ := ((Hs.out.ext HxE.out).ext (Hx14.out.trans Hxq.out)).str hql
                    obtain ⟨P, B2, Z, hR3⟩ := Hrat.out q2 a ha
                    obtain rfl := Option.some.inj (hr.symm.trans hR3)
                    dsimp only at z0 z1 z2 z3 v0 v1 v2 v3
                    have gtq := Ext.blk (Hx14.out.trans Hxq.out) HgV.out
                    clear r0 r4
                    have r4 := blk_cell gtq 4 rfl
                    have hltq : w.heap.size < wr.heap.size := (Array.getElem?_eq_some_iff.1 gtq).1
                    subst hAA
                    have q0 : (0 : Int) ≤ (q2 : Int) := by omega
                    have q1 : (q2 : Int) < (t.arms.length : Int) := by omega
                    clear hr hr2 hR3 ha gtq
                    go_wp2_with fail
                    refine wp_region_ext wr (Keeps.refl _ _) (by kernel_rfl) (by kernel_rfl) ?_
                    have hcell := fun (y : XW wr) => y.cell
                    repeat (go_big_quiet_step (fail))
                    refine wpQuiet_nil ?_
                    rintro _ ⟨y, rfl⟩
                    have Hy := Lib.hid y.h
                    go_wp2_with fail
                    go_roundw
                    case rel => exact ⟨q2 + 1, by omega, by go_num, Hxq.out.trans Hy.out⟩
                    case measure => simp [intOf]; omega
                  · obtain rfl : q2 = t.arms.length := by omega
                    go_wp2_with fail
                    go_ret
                    exact ⟨rfl, HxE.out.trans (Hx14.out.trans Hxq.out)⟩
            · obtain ⟨be, oe, e, rfl, hbe, _, he, e0, e1, e2, e3, e4, e5, e6, e7⟩ := ((Hsa.out.ext (HxX.out.trans Hx.out)).ext Hxr.out).ev (k := j - 1) (by omega)
              have j0 : (0 : Int) ≤ z := by have := Hz.out; omega
              have j1 : z < (k : Int) := by have := Hz.out; omega
              have j2 : z.toNat = j - 1 := by have := Hz.out; omega
              have hst := back_step (s := s) he
              rw [show j - 1 + 1 = j by omega] at hst
              cases hp : (e.person == s) <;> have hp' := hp <;> rw [beq_toListBytes] at hp'
              · have Hst := Lib.hid (show ((all.drop (j - 1)).filter (fun e => !(e.person == s))).reverse = ((all.drop j).filter (fun e => !(e.person == s))).reverse ++ [e] by rw [hst, hp, if_neg (by decide)])
                clear he hst hp
                go_wp2_with (at_builtin; refine wpList_append_Own (ok := fun _ => True) (R := evR) _ rfl (.tmp 173) (.tmp 178) 35 rfl 62 i0 _ 96 V.heap.size Tryd.underlying35 hi0 hz0 hz1 hz2 rfl (by decide) rfl (Hown.out.alloc _) _ 1 1 [e] rfl (Srcs.one_new rfl (by first | exact blk_new _ _ | exact blk_new_ _ _ (by simp)) rfl) (by omega) (by decide) (by first | omega | (simp; omega)) ?_; intro A8 c8 w8 hown8 hg8 hat8; have Hown8 := Lib.hid hown8; have Hx8 := Lib.hid (show Ext V w8 from Keeps.grown (Hxr.out.alloc _) hg8 (fun g hg hl => by have := (Hown.out.lt g hg).1; omega)); clear hown8 hg8 hat8)
                go_roundw
                case rel => exact ⟨j - 1, q + 1, _, A8, c8, by omega, by omega, by have := Hz.out; omega, rfl, rfl, by rw [Hst.out]; exact Hown8.out, Hx8.out⟩
                case measure => have := Hz.out; simp [intOf]; omega
              · have Hst := Lib.hid (show ((all.drop (j - 1)).filter (fun e => !(e.person == s))).reverse = ((all.drop j).filter (fun e => !(e.person == s))).reverse by rw [hst, hp, if_pos rfl, List.append_nil])
                clear he hst hp
                go_wp2_with fail
                go_roundw
                case rel => exact ⟨j - 1, q, _, B, cb, by omega, by omega, by have := Hz.out; omega, rfl, rfl, by rw [Hst.out]; exact Hown.out, Hxr.out⟩
                case measure => have := Hz.out; simp [intOf]; omega
end Go.Proofs.YtdkgphambjnbiaaDoor
