/-
  What is proved here: the law AuditAdds returns true, whatever the seed and the entries, and leaves old memory as it was. Conditions: the table of powers is laid, and the slice holds entries.
-/
import Derived.Test.YtkfcbafmefdhmaaDoorLawChecks
import Derived.Test.YtkfcbafmefdhmaaDoorEnc
import Derived.Test.YtkfcbafmefdhmaaDoorSame
import Derived.Test.YtkfcbafmefdhmaaDoorChain2
import Derived.Laws.Closers25b
import Derived.Deep.DeepCutAuto
import Derived.Deep.RegionHeld3
namespace Go.Proofs.YtkfcbafmefdhmaaDoor
open Go Go.RowKit Go.Proofs
attribute [local go_sem ↓] Go.wp_at_zero Go.wp_at_succ

theorem hash_in (s : Int) (l : List ByteArray) : 0 ≤ hash s l ∧ hash s l < 18446744073709551616 := by
  unfold hash
  generalize l.foldl hword (hstart s) = x
  rw [hend_def]
  generalize IntKind.u64.wrap _ = y
  have := bits_within .xor .u64 y (y / 8589934592)
  have e1 : IntKind.u64.min = 0 := by decide
  have e2 : IntKind.u64.max = 18446744073709551615 := by decide
  rw [e1, e2] at this
  omega
theorem lineL_le (e : Ent) (n p i : Nat) (ho : (Lib.itoa e.off).length ≤ 1000) (ht : (Lib.itoa e.now).length ≤ 1000) (hp : e.person.size ≤ p) (hi : (itemsL e.items).length ≤ i) (hs : (Lib.decDigits e.sum.toNat).length ≤ 1000) (hn : 3004 + p + i ≤ n) : (lineL e).length ≤ n := by
  have hp' : e.person.data.size ≤ p := hp
  simp [lineL, Lib.join, List.intercalate, List.intersperse]
  omega
theorem ent_ok {e : Ent} (hm : mayE e = true) (hn : e.items.length ≤ 30) (hi : ∀ s ∈ e.items, s.size ≤ 100) (ahead : Int) : EntOk ⟨e.off, e.now, e.person, e.items, sumE ahead ⟨e.off, e.now, e.person, e.items, 0⟩⟩ := by
  obtain ⟨m1, m2, m3, m4, m5, m6, m7⟩ := mayE_parts hm
  have hp := nameB_size m5
  have hh := hash_in ahead (itoaB e.off :: itoaB e.now :: e.person :: e.items)
  have hil := itemsL_le e.items (fun s hs => Nat.le_trans (hi s hs) (by decide))
  have h30 := Nat.mul_le_mul_right 1001 hn
  refine ⟨m6, by show e.person.size ≤ _; omega, fun s hs => Nat.le_trans (hi s hs) (by decide), m1, by show e.off ≤ _; omega, m3, m4, hh.1, hh.2, ?_⟩
  exact lineL_le _ _ 24 31000 (itoa_len e.off m1 (by omega)) (itoa_len e.now m3 m4) hp (by show (itemsL e.items).length ≤ _; omega) (dec_len _ (by have := hh.1; have := hh.2; show (sumE ahead ⟨e.off, e.now, e.person, e.items, 0⟩).toNat < _; unfold sumE; simp only; omega)) (by decide)

theorem one_ent {ok : Nat → Prop} {W : World} {h : Nat} (e : Ent) {A : Option Addr} {c : Nat} {T : TypeId} {fr : Nat × Nat} (hb : W.heap[h]? = some (.cells #[.int .i64 e.off, .int .i64 e.now, .string e.person, .slice A e.items.length c, .int .u64 e.sum] T fr)) (hok : ok h) (hc : e.items.length ≤ c) (hs : Sl strR ok W A e.items.length e.items) : Sl entR ok W (some ⟨h, 0, none⟩) 1 [e] :=
  Sl.new_flat hb hok rfl fun k a ha => by
    match k, ha with
    | 0, ha =>
      simp at ha; subst ha
      exact ⟨_, ⟨A, c, rfl, hc, hs⟩, fun j u hu => by simpa [entR] using hu⟩
theorem Sl.below {α : Type} {R : Rep α} {ok : Nat → Prop} {w : World} {A : Option Addr} {n : Nat} {l : List α} (h : Sl R ok w A n l) : Sl R (fun k => k < w.heap.size) w A n l := h.mono fun _ hk _ => hk
theorem blk_new' (w : World) (o : Obj) (g : Nat) (h : g = w.heap.size) : (w.alloc o).heap[g]? = some o := by subst h; exact blk_new w o

theorem blk_drewN {w : World} {g : Nat} {o : Obj} (h : w.heap[g]? = some o) (m : Nat) : (w.drewN m).heap[g]? = some o := h
structure AddsAt (ok : Nat → Prop) (w : World) (b : Nat) (seed : Int) (k : Nat) (es' : List Ent) (vc : Value) (Aw : Option Addr) (cw : Nat) (wr : World) : Prop where
  len : es'.length ≤ k
  all : ∀ e ∈ es', EntOk e
  ch : ChainX (fun j => (Value.slice Aw es'.length cw).ownBlock ≠ some j) wr b seed es' vc
  want : Own entR 30 ok wr w.heap.size (.slice Aw es'.length cw) es'.length es'
  ext : Ext w wr

theorem AddsAt.go {ok : Nat → Prop} {w wr wr' : World} {b k cw : Nat} {seed : Int} {es' : List Ent} {vc : Value} {Aw : Option Addr} (h : AddsAt ok w b seed k es' vc Aw cw wr) (hx : Ext wr wr') : AddsAt ok w b seed (k + 1) es' vc Aw cw wr' :=
  ⟨Nat.le_succ_of_le h.len, h.all, h.ch.ext hx, h.want.ext hx, h.ext.trans hx⟩
theorem AddsAt.add {ok : Nat → Prop} {w wr : World} {b k c5 : Nat} {seed : Int} {es' : List Ent} {v' : Value} {A5 : Option Addr} {E : Ent} (hl : es'.length ≤ k) (hall : ∀ e ∈ es', EntOk e) (hE : EntOk E) (hch : ChainX (fun j => (Value.slice A5 (es'.length + 1) c5).ownBlock ≠ some j) wr b seed (es' ++ [E]) v')
    (hw : Own entR 30 ok wr w.heap.size (.slice A5 (es'.length + 1) c5) (es'.length + 1) (es' ++ [E])) (hx : Ext w wr) : AddsAt ok w b seed (k + 1) (es' ++ [E]) v' A5 c5 wr := by
  have e : (es' ++ [E]).length = es'.length + 1 := by simp
  refine ⟨by omega, fun x hx => ?_, by rw [e]; exact hch, by rw [e]; exact hw, hx⟩
  rcases List.mem_append.1 hx with h | h
  · exact hall x h
  · simp at h; subst h; exact hE
theorem Own.ne_own {α β : Type} {R : Rep α} {R' : Rep β} {t t' : TypeId} {ok ok' : Nat → Prop} {w : World} {base base' : Nat} {v v' : Value} {n n' : Nat} {l : List α} {l' : List β} (h : Own R t ok w base v n l) (h' : Own R' t' ok' w base' v' n' l') (ht : t ≠ t') : ∀ g, v'.ownBlock = some g → v.ownBlock ≠ some g := by
  intro g hg
  rcases h'.2.choose_spec.1.2 with ⟨hv, _⟩ | ⟨g', cap, cur, hv, _, hh, _⟩
  · rw [hv] at hg; simp [Value.ownBlock] at hg
  · rw [hv] at hg
    have : g' = g := by simpa [Value.ownBlock] using hg
    subst this
    exact h.ne_blk hh ht
theorem chain_grow {ok : Nat → Prop} {W W' : World} {b base n : Nat} {seed : Int} {es l : List Ent} {vc v v' : Value} (h : ChainX (fun j => v.ownBlock ≠ some j) W b seed es vc) (hg : W.grownBy W' v.ownBlock) (hown : Own entR 30 ok W base v n l) (hat : v'.ownBlock = v.ownBlock ∨ v'.ownBlock = some W.heap.size) :
    ChainX (fun j => v'.ownBlock ≠ some j) W' b seed es vc := by
  have hb := hown.ne_blk h.blk (by decide)
  refine ⟨(hg.block b (Array.getElem?_eq_some_iff.1 h.blk).1 (fun e => hb e.symm)).trans h.blk, ?_⟩
  have h1 := h.own.mono (ok' := fun k => (b < k ∧ v.ownBlock ≠ some k) ∧ v'.ownBlock ≠ some k) (fun k hk hk2 => ⟨hk2, by
    rcases hat with e | e
    · rw [e]; exact hk2.2
    · rw [e]; intro e'; injection e' with e'; omega⟩)
  refine (h1.keep ((Keeps.refl _ _).grown hg (fun k hk _ hoff => hoff.1.1.2 hk)) (fun g hgv => hg.block g (h.own.lt g hgv).2 (fun e => hown.ne_own h.own (by decide) g hgv e.symm))).mono (fun k _ hk => ⟨hk.1.1, hk.2⟩)

set_option maxRecDepth 100000 in
set_option maxHeartbeats 4000000 in
theorem law_Adds (seed : Int) (h0 : 0 ≤ seed) (h1 : seed < 18446744073709551616) (A : Option Addr) (n c : Nat) (es : List Ent) (ok : Nat → Prop) (w : World) (hs : Sl entR ok w A n es) (hn : n ≤ maxLen) (hok : ∀ k, ok k → k < w.heap.size) (hpow : Pow w) :
    Calls Tryd.prog 3 #[.int .u64 seed, .slice A n c] w fun e w' => e = .returned (.bool true) ∧ Ext w w' := by
  have Hs := Lib.hid hs
  have Hok := Lib.hid hok
  have Hpow := Lib.hid hpow
  have Hn := Lib.hid hn
  have Hseed := Lib.hid (And.intro h0 h1)
  clear hs hok hpow hn h0 h1
  cases hf : fewB es
  · go_enter Tryd.func3, Tryd.ntmps3
    go_wp2_with (first
      | (go_at_call 8; refine (law_lives _ Hpow.out).mono ?_; rintro _ w1 ⟨rfl, hx1⟩; have Hx1 := Lib.hid hx1; clear hx1)
      | (go_at_call 9; refine (ref_Few A n c es ok _ (Hs.out.ext Hx1.out) Hn.out).mono ?_; rw [hf]; rintro _ w2 ⟨rfl, rfl⟩))
    go_ret
    exact ⟨rfl, Hx1.out⟩
  · obtain ⟨hl, hin⟩ := fewB_in hf
    have Hin := Lib.hid hin
    have hnl : n ≤ 31 := by have := Hs.out.1; omega
    clear hin
    go_enter Tryd.func3, Tryd.ntmps3
    go_wp2_with (first
      | (go_at_call 8; refine (law_lives _ Hpow.out).mono ?_; rintro _ w1 ⟨rfl, hx1⟩; have Hx1 := Lib.hid hx1; clear hx1)
      | (go_at_call 9; refine (ref_Few A n c es ok _ (Hs.out.ext Hx1.out) Hn.out).mono ?_; rw [hf]; rintro _ w2 ⟨rfl, rfl⟩)
      | (go_at_call 10; refine (chain_New seed _).mono ?_; rintro _ w2 ⟨rfl, hch2, hx2⟩; have Hch2 := Lib.hid hch2; have Hx2 := Lib.hid (Hx1.out.trans hx2); clear hch2 hx2))
    have hbw : w.heap.size ≤ w1.heap.size := Hx1.out.size
    generalize w1.heap.size = b at *
    clear hf
    go_loopw [6, 7, 8] (fun a v i wr => ∃ (k : Nat) (es' : List Ent) (vc : Value) (Aw : Option Addr) (cw : Nat), k ≤ n ∧ i = .int .i64 k ∧ a = .int .u64 (aheadOf seed es') ∧ v = .slice Aw es'.length cw ∧ AddsAt ok w b seed k es' vc Aw cw wr) (fun _ _ i _ => n - (intOf i).toNat)
    case atStart => exact ⟨0, [], .slice none 0 0, none, 0, Nat.zero_le _, rfl, rfl, rfl, ⟨Nat.zero_le _, by simp, ⟨Hch2.out.blk, Own.nil_⟩, Own.nil_, Hx2.out⟩⟩
    case round =>
      obtain ⟨k, es', vc, Aw, cw, hk, rfl, rfl, rfl, hat⟩ := hrel
      have Hat := Lib.hid hat
      have hlen := hat.len
      clear hat
      by_cases hlt : k < n
      · obtain ⟨b', o, e, A', c', rfl, hb', ho, he, hc', hs', d0, d1, d2, d3, d4⟩ := Hs.out.ent hlt
        obtain ⟨hei, hei2, hei3, hei4⟩ := Hin.out e (List.mem_of_getElem? he)
        have Hei := Lib.hid hei
        have Hei4 := Lib.hid hei4
        have He := Lib.hid he
        have Hs' := Lib.hid hs'
        have Hor := Lib.hid (Old.of_ext Hat.out.ext)
        have i0 : (0 : Int) ≤ (k : Int) := by omega
        have i1 : (k : Int) < (n : Int) := by omega
        have c0 := (Hor.out.2 ⟨b', o + k * 5, none⟩ hb').trans d0
        have c1 := (Hor.out.2 ⟨b', o + k * 5 + 1, none⟩ hb').trans d1
        have c2 := (Hor.out.2 ⟨b', o + k * 5 + 2, none⟩ hb').trans d2
        have c3 := (Hor.out.2 ⟨b', o + k * 5 + 3, none⟩ hb').trans d3
        have c4 := (Hor.out.2 ⟨b', o + k * 5 + 4, none⟩ hb').trans d4
        clear hei hei4 he hs'
        cases hm : mayE e
        · go_wp2_with fail
          refine (ref_May (⟨e.off, e.now, e.person, e.items, 0⟩ : Ent) A' c' ok _ ((Hs'.out.ext Hat.out.ext).alloc _) (Nat.le_of_lt Hei.out.p) (fun s hs => Nat.le_of_lt (Hei.out.i s hs))).mono ?_
          rw [show mayE (⟨e.off, e.now, e.person, e.items, 0⟩ : Ent) = false from hm]
          rintro _ w3 ⟨rfl, hx3⟩
          have hg3 := hx3.blk (blk_new wr _)
          have r0 := blk_cell hg3 0 rfl
          have r1 := blk_cell hg3 1 rfl
          have r2 := blk_cell hg3 2 rfl
          have r3 := blk_cell hg3 3 rfl
          have r4 := blk_cell hg3 4 rfl
          have f3 := blk_free hg3
          have Hg3 := Lib.hid hg3
          have Hx3 := Lib.hid (Keeps.trans ((Keeps.refl (fun _ => True) wr).alloc _) hx3)
          clear hg3 hx3
          go_upto_region 20 with fail
          clear r0 r1 r2 r3 r4 f3 c0 c1 c2 c3 c4
          obtain ⟨X, hX⟩ : ∃ X, X = (((((w3.setCell ⟨wr.heap.size, 0, none⟩ (.int .i64 0)).setCell ⟨wr.heap.size, 1, none⟩ (.int .i64 0)).setCell ⟨wr.heap.size, 2, none⟩ (.string ⟨#[]⟩)).setCell ⟨wr.heap.size, 3, none⟩ (.slice none 0 0)).setCell ⟨wr.heap.size, 4, none⟩ (.int .u64 0)) := ⟨_, rfl⟩
          rw [← hX]
          have hgX : X.heap[wr.heap.size]? = some (.cells #[.int .i64 0, .int .i64 0, .string ⟨#[]⟩, .slice none 0 0, .int .u64 0] 30) := by
            rw [hX]; simpa using blk_set (blk_set (blk_set (blk_set (blk_set Hg3.out 0 (.int .i64 0)) 1 (.int .i64 0)) 2 (.string ⟨#[]⟩)) 3 (.slice none 0 0)) 4 (.int .u64 0)
          have hxX : Ext wr X := by
            rw [hX]
            repeat (first | with_reducible exact Hx3.out | with_reducible exact Keeps.refl _ _ | with_reducible refine Keeps.drew ?_ | with_reducible refine Keeps.drewN ?_ _ | with_reducible refine Keeps.alloc ?_ _ | with_reducible refine Keeps.setCell ?_ (by first | (intro h; simp at h; done) | (intro _; simp; done) | (intro _; simp; omega) | (intro h; simp at h; omega)) _)
          have hszX : wr.heap.size < X.heap.size := (Array.getElem?_eq_some_iff.1 hgX).1
          have HgX := Lib.hid hgX
          have HxX := Lib.hid hxX
          have HoX := Lib.hid (Hor.out.ext hxX)
          have hwX : w.heap.size ≤ X.heap.size := HoX.out.1
          clear hX Hg3 Hx3 hgX hxX
          go_cut [10] (fun s10 wc => ∃ g, s10 = .pointer (some ⟨g, 0, none⟩) ∧ wc.heap[g]? = some (.cells #[.int .i64 0, .int .i64 0, .string ⟨#[]⟩, .slice none 0 0, .int .u64 0] 33) ∧ Ext X wc)
          case first =>
            go_region_held3 (fun w' => w.heap.size ≤ w'.heap.size ∧ ∀ p : Addr, p.block < w.heap.size → w'.cell? p = w.cell? p) (repeat (first | with_reducible assumption | with_reducible exact HoX.out | with_reducible refine Old.drew ?_ | with_reducible refine Old.alloc ?_ _ | with_reducible refine Old.setCell ?_ hwX _)) (((go_at_call 13; refine (chain_Add_no b e.off e.now e.person e.items A' c' ok _ (by exact ((Hs'.out.ext Hat.out.ext).ext HxX.out).ext (by repeat (first | with_reducible exact Keeps.refl _ _ | with_reducible refine Keeps.drew ?_ | with_reducible refine Keeps.drewN ?_ _ | with_reducible refine Keeps.alloc ?_ _))) (by omega) (Nat.le_of_lt Hei.out.p) (fun s hs => Nat.le_of_lt (Hei.out.i s hs)) hm).mono ?_; rintro _ w4 ⟨rfl, hx4⟩; have ho4 : Old w w4 := Old.ext (by repeat (first | with_reducible exact HoX.out | with_reducible exact Old.refl _ | with_reducible refine Old.drew ?_ | with_reducible refine Old.drewN ?_ _ | with_reducible refine Old.alloc ?_ _)) hx4; (try (have hgz := hx4.blk (g := X.heap.size) (by first | with_reducible exact blk_new _ _ | with_reducible exact blk_drew (blk_new _ _)); have z0 := blk_cell hgz 0 rfl; have z1 := blk_cell hgz 1 rfl; have z2 := blk_cell hgz 2 rfl; have z3 := blk_cell hgz 3 rfl; have z4 := blk_cell hgz 4 rfl; have fz := blk_free hgz)))))
            all_goals (go_wp2_with fail; go_meet)
            · exact ⟨w4.heap.size, rfl, blk_new _ _, Keeps.alloc (Keeps.trans (by repeat (first | with_reducible exact Keeps.refl _ _ | with_reducible refine Keeps.drew ?_ | with_reducible refine Keeps.drewN ?_ _ | with_reducible refine Keeps.alloc ?_ _)) hx4) _⟩
            · refine ⟨X.heap.size, rfl, by simpa using blk_set (blk_set (blk_set (blk_set (blk_set hgz 0 (.int .i64 0)) 1 (.int .i64 0)) 2 (.string ⟨#[]⟩)) 3 (.slice none 0 0)) 4 (.int .u64 0), ?_⟩
              have hx5 : Ext X w4 := Keeps.trans (by repeat (first | with_reducible exact Keeps.refl _ _ | with_reducible refine Keeps.drew ?_ | with_reducible refine Keeps.drewN ?_ _ | with_reducible refine Keeps.alloc ?_ _)) hx4
              repeat (first | with_reducible exact hx5 | with_reducible exact Keeps.refl _ _ | with_reducible refine Keeps.drew ?_ | with_reducible refine Keeps.drewN ?_ _ | with_reducible refine Keeps.alloc ?_ _ | with_reducible refine Keeps.setCell ?_ (by first | (intro h; simp at h; done) | (intro _; simp; done) | (intro _; simp; omega) | (intro h; simp at h; omega)) _)
          case rest =>
            obtain ⟨g, hs10, hgc, hxc⟩ := hcut
            subst hs10
            obtain ⟨Y, hY⟩ : ∃ Y, Y = wc := ⟨_, rfl⟩
            rw [← hY] at hgc hxc ⊢
            clear hY
            have hg9 := hxc.blk HgX.out
            have Hxc := Lib.hid hxc
            clear hxc
            have hbox1 : ∀ (Y : World) (j : Nat), Y.heap[g]? = some (.cells #[.int .i64 0, .int .i64 0, .string ⟨#[]⟩, .slice none 0 0, .int .u64 0] 33) → Y.cell? ⟨g, j, none⟩ = (#[.int .i64 0, .int .i64 0, .string ⟨#[]⟩, .slice none 0 0, .int .u64 0] : Array Value)[j]? := fun Y j h => by simp [World.cell?, h]
            have hbox2 : ∀ (Y : World) (j : Nat), Y.heap[wr.heap.size]? = some (.cells #[.int .i64 0, .int .i64 0, .string ⟨#[]⟩, .slice none 0 0, .int .u64 0] 30) → Y.cell? ⟨wr.heap.size, j, none⟩ = (#[.int .i64 0, .int .i64 0, .string ⟨#[]⟩, .slice none 0 0, .int .u64 0] : Array Value)[j]? := fun Y j h => by simp [World.cell?, h]
            go_wp2_with fail
            go_region_held3 (fun w' => w'.heap[g]? = some (.cells #[.int .i64 0, .int .i64 0, .string ⟨#[]⟩, .slice none 0 0, .int .u64 0] 33) ∧ w'.heap[wr.heap.size]? = some (.cells #[.int .i64 0, .int .i64 0, .string ⟨#[]⟩, .slice none 0 0, .int .u64 0] 30)) (refine ⟨?_, ?_⟩ <;> (repeat (first | with_reducible assumption | with_reducible refine blk_drew ?_ | with_reducible refine blk_drewN ?_ _ | with_reducible refine blk_old ?_ _ | with_reducible refine Ext.blk (by with_reducible assumption) ?_))) (first
              | (go_at_call 15; refine (law_told _ 1 _ [(⟨0, 0, ⟨#[]⟩, [], 0⟩ : Ent)] (fun k => k < _) _ (one_ent (⟨0, 0, ⟨#[]⟩, [], 0⟩ : Ent) (by repeat (first | with_reducible exact blk_new _ _ | (refine blk_new' _ _ _ ?_; simp; done) | with_reducible refine blk_drew ?_ | with_reducible refine blk_old ?_ _ | with_reducible refine Ext.blk hx5 ?_)) (by first | (simp; done) | (simp; omega)) (Nat.le_refl _) Sl.nil_) (by decide) (fun _ h => h)).mono ?_; rintro _ w5 ⟨v5, rfl, hown5, hx5⟩; obtain ⟨A5, c5, rfl⟩ := hown5.form)
              | (go_at_call 14; refine (same_yes A5 _ 1 c5 _ [(⟨0, 0, ⟨#[]⟩, [], 0⟩ : Ent)] (fun _ => True) (fun _ => True) _ ((hown5.sl (fun _ _ _ _ => trivial) (fun _ _ _ => trivial)).ext (by repeat (first | with_reducible exact Keeps.refl _ _ | with_reducible refine Keeps.drew ?_ | with_reducible refine Keeps.drewN ?_ _ | with_reducible refine Keeps.alloc ?_ _))) (one_ent (⟨0, 0, ⟨#[]⟩, [], 0⟩ : Ent) (by repeat (first | with_reducible exact blk_new _ _ | (refine blk_new' _ _ _ ?_; simp; done) | with_reducible refine blk_drew ?_ | with_reducible refine blk_old ?_ _ | with_reducible refine Ext.blk hx5 ?_)) trivial (Nat.le_refl _) Sl.nil_) (by decide) (by simp)).mono ?_; rintro _ w6 ⟨rfl, m6, rfl⟩))
            all_goals
              have Hxx := Lib.hid (show Ext wr w5 from HxX.out.trans (Hxc.out.trans (Keeps.trans (by repeat (first | with_reducible exact Keeps.refl _ _ | with_reducible refine Keeps.drew ?_ | with_reducible refine Keeps.drewN ?_ _ | with_reducible refine Keeps.alloc ?_ _)) hx5)))
              clear hbox1 hbox2 hown5 hx5
              go_wp2_with fail
              go_roundw
              case rel => exact ⟨k + 1, es', vc, Aw, cw, by omega, by go_num, rfl, rfl, Hat.out.go (by repeat (first | with_reducible exact Hxx.out | with_reducible exact Keeps.refl _ _ | with_reducible refine Keeps.drew ?_ | with_reducible refine Keeps.drewN ?_ _ | with_reducible refine Keeps.alloc ?_ _))⟩
              case measure => simp [intOf]; omega
        · obtain ⟨m1, m2, m3, m4, _, m6, _⟩ := mayE_parts hm
          have m2' : e.off ≤ 1099511627776 := by omega
          obtain ⟨j0, hj0, hz0, hz1, hz2⟩ := info_parts info_refEnt
          go_wp2_with fail
          refine (ref_May (⟨e.off, e.now, e.person, e.items, 0⟩ : Ent) A' c' ok _ ((Hs'.out.ext Hat.out.ext).alloc _) (Nat.le_of_lt Hei.out.p) (fun s hs => Nat.le_of_lt (Hei.out.i s hs))).mono ?_
          rw [show mayE (⟨e.off, e.now, e.person, e.items, 0⟩ : Ent) = true from hm]
          rintro _ w3 ⟨rfl, hx3⟩
          have hg3 := hx3.blk (blk_new wr _)
          have r0 := blk_cell hg3 0 rfl
          have r1 := blk_cell hg3 1 rfl
          have r2 := blk_cell hg3 2 rfl
          have r3 := blk_cell hg3 3 rfl
          have r4 := blk_cell hg3 4 rfl
          have Hg3 := Lib.hid hg3
          have Hx3 := Lib.hid (Keeps.trans ((Keeps.refl (fun _ => True) wr).alloc _) hx3)
          clear hg3 hx3 c0 c1 c2 c3 c4
          go_wp2_with fail
          refine (ref_Sum (aheadOf seed es') (⟨e.off, e.now, e.person, e.items, 0⟩ : Ent) A' c' ok _ ((Hs'.out.ext Hat.out.ext).ext Hx3.out) m6 Hei.out.p Hei.out.i m1 m2' m3 m4).mono ?_
          rintro _ w4 ⟨rfl, hx4⟩
          have Hent := Lib.hid (ent_ok hm hei2 Hei4.out (aheadOf seed es'))
          obtain ⟨H, hH⟩ : ∃ H, H = sumE (aheadOf seed es') (⟨e.off, e.now, e.person, e.items, 0⟩ : Ent) := ⟨_, rfl⟩
          rw [← hH] at Hent ⊢
          have HH := Lib.hid hH
          have hg4 := hx4.blk Hg3.out
          clear r0 r1 r2 r3 r4 hH
          have r0 := blk_cell hg4 0 rfl
          have r1 := blk_cell hg4 1 rfl
          have r2 := blk_cell hg4 2 rfl
          have r3 := blk_cell hg4 3 rfl
          have r4 := blk_cell hg4 4 rfl
          have f4 := blk_free hg4
          have Hx4 := Lib.hid (show Ext wr (w4.setCell ⟨wr.heap.size, 4, none⟩ (.int .u64 H)) by
            have hx5 := Hx3.out.trans hx4
            repeat (first | with_reducible exact hx5 | with_reducible exact Keeps.refl _ _ | with_reducible refine Keeps.drew ?_ | with_reducible refine Keeps.drewN ?_ _ | with_reducible refine Keeps.alloc ?_ _ | with_reducible refine Keeps.setCell ?_ (by first | (intro h; simp at h; done) | (intro _; simp; done) | (intro _; simp; omega) | (intro h; simp at h; omega)) _))
          have Hg4 := Lib.hid (show (w4.setCell ⟨wr.heap.size, 4, none⟩ (.int .u64 H)).heap[wr.heap.size]? = some (.cells #[.int .i64 e.off, .int .i64 e.now, .string e.person, .slice A' e.items.length c', .int .u64 H] 30) by simpa using blk_set hg4 4 (.int .u64 H))
          have Hm := Lib.hid (show ∀ i, i < w.heap.size → ok i → off ok (.slice Aw es'.length cw) i from fun i _ h => ⟨h, fun e => by have := (Hat.out.want.lt i e).1; have := Hok.out i h; omega⟩)
          have Hs2 := Lib.hid (((Hs'.out.mono Hm.out).ext Hat.out.ext).ext Hx4.out)
          clear hg4 hx4
          go_upto_region 20 with (at_builtin; refine wpList_append_Own (ok := ok) (R := entR) _ rfl (.tmp 40) (.tmp 42) 23 rfl 30 j0 _ 64 w.heap.size Tryd.underlying23 hj0 hz0 hz1 hz2 rfl (by decide) rfl ((Hat.out.want.ext Hx4.out).alloc _) _ 1 1 [(⟨e.off, e.now, e.person, e.items, H⟩ : Ent)] rfl (Srcs.one_new ⟨A', c', rfl, hc', Hs2.out.alloc _⟩ (blk_new' _ _ _ (by simp)) rfl) (by omega) (by decide) (Nat.le_trans Hat.out.ext.size (Nat.le_trans Hx4.out.size (by simp))) ?_; intro A5 c5 X hown5 hg5 hat5)
          have hbwr : b < wr.heap.size := (Array.getElem?_eq_some_iff.1 Hat.out.ch.blk).1
          have hwl := Hat.out.want.lt
          have hnrow : some wr.heap.size ≠ (Value.slice Aw es'.length cw).ownBlock := fun e => by have := (hwl _ e.symm).2; omega
          have hgX : X.heap[wr.heap.size]? = some (.cells #[.int .i64 e.off, .int .i64 e.now, .string e.person, .slice A' e.items.length c', .int .u64 H] 30) := (hg5.block wr.heap.size (Nat.lt_of_lt_of_le (Array.getElem?_eq_some_iff.1 Hg4.out).1 (by simp)) hnrow).trans (blk_old Hg4.out _)
          have hchX := chain_grow ((Hat.out.ch.ext Hx4.out).ext ((Keeps.refl _ _).alloc _)) hg5 ((Hat.out.want.ext Hx4.out).alloc _) hat5
          have hxw : Ext w X := Keeps.grown ((Hat.out.ext.trans Hx4.out).alloc _) hg5 (fun g hg hl => by have := (hwl g hg).1; omega)
          have hoX : Old w X := Old.of_ext hxw
          have hwX : w.heap.size ≤ X.heap.size := hxw.size
          have hszX : wr.heap.size < X.heap.size := (Array.getElem?_eq_some_iff.1 hgX).1
          have hsX := Hs'.out.ext hxw
          have HgX := Lib.hid hgX
          have HchX := Lib.hid hchX
          have HxX := Lib.hid hxw
          have HoX := Lib.hid hoX
          have HsX := Lib.hid hsX
          have Hown5 := Lib.hid hown5
          have HA2 := chain_Add_yesX _ b seed es' vc e.off e.now e.person e.items A' c' ok X.drew (hchX.ext (by repeat (first | with_reducible exact Keeps.refl _ _ | with_reducible refine Keeps.drew ?_ | with_reducible refine Keeps.drewN ?_ _ | with_reducible refine Keeps.alloc ?_ _))) (fun j hj h => by have := (hown5.lt j h).2; have : X.heap.size ≤ j := hj; omega) (by omega) (hsX.drew) hm (Hpow.out.ext (hxw.drew))
          have HA1 := chain_Add_yesX (fun j => (Value.slice A5 (es'.length + 1) c5).ownBlock ≠ some j ∧ j ≠ X.heap.size) b seed es' vc e.off e.now e.person e.items A' c' ok (X.alloc (.cells #[.int .i64 0, .int .i64 0, .string ⟨#[]⟩, .slice none 0 0, .int .u64 0] 33)).drew ((hchX.mono (fun j hj h => ⟨h, by omega⟩)).ext (by repeat (first | with_reducible exact Keeps.refl _ _ | with_reducible refine Keeps.drew ?_ | with_reducible refine Keeps.drewN ?_ _ | with_reducible refine Keeps.alloc ?_ _))) (fun j hj => by
            have hj' : X.heap.size + 1 ≤ j := by simpa using hj
            exact ⟨fun h => by have := (hown5.lt j h).2; omega, by omega⟩) (by omega) (hsX.ext (by repeat (first | with_reducible exact Keeps.refl _ _ | with_reducible refine Keeps.drew ?_ | with_reducible refine Keeps.drewN ?_ _ | with_reducible refine Keeps.alloc ?_ _))) hm (Hpow.out.ext (hxw.trans (by repeat (first | with_reducible exact Keeps.refl _ _ | with_reducible refine Keeps.drew ?_ | with_reducible refine Keeps.drewN ?_ _ | with_reducible refine Keeps.alloc ?_ _))))
          rw [← HH.out] at HA1 HA2
          have Hkw := Lib.hid (show ∀ i, i < w.heap.size → i ≠ b ∧ vc.ownBlock ≠ some i from fun i hi => ⟨by omega, fun e => by have := (HchX.out.own.lt i e).1; omega⟩)
          have Hnx := Lib.hid (show X.heap.size ≠ b ∧ vc.ownBlock ≠ some X.heap.size from ⟨by omega, fun e => by have := (HchX.out.own.lt _ e).2; omega⟩)
          replace HA1 := Lib.hid HA1
          replace HA2 := Lib.hid HA2
          clear hgX hchX hxw hoX hsX hown5 hg5 hat5 hwl hnrow r0 r1 r2 r3 r4 f4
          go_cut [10] (fun s10 wc => ∃ g A3 c3 v', s10 = .pointer (some ⟨g, 0, none⟩) ∧ wc.heap[g]? = some (.cells #[.int .i64 e.off, .int .i64 e.now, .string e.person, .slice A3 e.items.length c3, .int .u64 H] 33) ∧ e.items.length ≤ c3 ∧ Sl strR (fun _ => True) wc A3 e.items.length e.items ∧ ChainX (fun j => (Value.slice A5 (es'.length + 1) c5).ownBlock ≠ some j) wc b seed (es' ++ [(⟨e.off, e.now, e.person, e.items, H⟩ : Ent)]) v' ∧ Keeps (fun k => k ≠ b ∧ vc.ownBlock ≠ some k) X wc)
          case first =>
            go_region_held3 (fun w' => w.heap.size ≤ w'.heap.size ∧ ∀ p : Addr, p.block < w.heap.size → w'.cell? p = w.cell? p) (repeat (first | with_reducible assumption | with_reducible exact HoX.out | with_reducible refine Old.drew ?_ | with_reducible refine Old.alloc ?_ _ | with_reducible refine Old.setCell ?_ hwX _)) (first
              | (go_at_call 13; (with_reducible refine HA1.out.mono ?_); rintro _ w6 ⟨A3, c3, v', rfl, hs6, hc6, hch6, hk6, hv6⟩; have ho6 : Old w w6 := Old.of_ext (Keeps.then_ (by repeat (first | with_reducible exact HxX.out | with_reducible exact Keeps.refl _ _ | with_reducible refine Keeps.drew ?_ | with_reducible refine Keeps.drewN ?_ _ | with_reducible refine Keeps.alloc ?_ _)) hk6 (fun i hi _ => Hkw.out i hi)); have hgz := hk6.blk (g := X.heap.size) (blk_drew (blk_new _ _)) Hnx.out; have z0 := blk_cell hgz 0 rfl; have z1 := blk_cell hgz 1 rfl; have z2 := blk_cell hgz 2 rfl; have z3 := blk_cell hgz 3 rfl; have z4 := blk_cell hgz 4 rfl; have fz := blk_free hgz)
              | (go_at_call 13; (with_reducible refine HA2.out.mono ?_); rintro _ w6 ⟨A3, c3, v', rfl, hs6, hc6, hch6, hk6, hv6⟩; have ho6 : Old w w6 := Old.of_ext (Keeps.then_ (by repeat (first | with_reducible exact HxX.out | with_reducible exact Keeps.refl _ _ | with_reducible refine Keeps.drew ?_ | with_reducible refine Keeps.drewN ?_ _ | with_reducible refine Keeps.alloc ?_ _)) hk6 (fun i hi _ => Hkw.out i hi))))
            all_goals (go_wp2_with fail; go_meet)
            · exact ⟨w6.heap.size, A3, c3, v', rfl, blk_new _ _, hc6, (hs6.mono (fun _ _ _ => trivial)).alloc _, hch6.ext (by repeat (first | with_reducible exact Keeps.refl _ _ | with_reducible refine Keeps.drew ?_ | with_reducible refine Keeps.drewN ?_ _ | with_reducible refine Keeps.alloc ?_ _)), Keeps.alloc (Keeps.then_ (by repeat (first | with_reducible exact Keeps.refl _ _ | with_reducible refine Keeps.drew ?_ | with_reducible refine Keeps.drewN ?_ _ | with_reducible refine Keeps.alloc ?_ _)) hk6 (fun _ _ h => h)) _⟩
            · refine ⟨X.heap.size, A3, c3, v', rfl, by simpa using blk_set (blk_set (blk_set (blk_set (blk_set hgz 0 (.int .i64 e.off)) 1 (.int .i64 e.now)) 2 (.string e.person)) 3 (.slice A3 e.items.length c3)) 4 (.int .u64 H), hc6, ?_, ?_, ?_⟩
              · refine (hs6.keep ?_).mono (fun _ _ _ => trivial)
                repeat (first | with_reducible exact Keeps.refl _ _ | with_reducible exact Keeps.refl _ _ | with_reducible refine Keeps.drew ?_ | with_reducible refine Keeps.drewN ?_ _ | with_reducible refine Keeps.alloc ?_ _ | with_reducible refine Keeps.setCell ?_ (by first | (intro h; simp at h; done) | (intro _; simp; done) | (intro _; simp; omega) | (intro h; simp at h; omega)) _)
              · refine chain_after (g := X.heap.size) ?_ hch6.blk (fun e => Hnx.out.1 e.symm) (hch6.own.mono (fun k _ h => ⟨⟨h.1, h.2.1⟩, h.2.2⟩)) (fun k hk e => ?_)
                · repeat (first | with_reducible exact Keeps.refl _ _ | with_reducible exact Keeps.refl _ _ | with_reducible refine Keeps.drew ?_ | with_reducible refine Keeps.drewN ?_ _ | with_reducible refine Keeps.alloc ?_ _ | with_reducible refine Keeps.setCell ?_ (by first | (intro h; simp at h; done) | (intro _; simp; done) | (intro _; simp; omega) | (intro h; simp at h; omega)) _)
                · rcases hv6 with h | h
                  · rw [h, e] at hk; exact Hnx.out.2 hk
                  · have := h k hk; simp at this; omega
              · have h6 : Keeps (fun k => k ≠ b ∧ vc.ownBlock ≠ some k) X w6 := Keeps.then_ (by repeat (first | with_reducible exact Keeps.refl _ _ | with_reducible refine Keeps.drew ?_ | with_reducible refine Keeps.drewN ?_ _ | with_reducible refine Keeps.alloc ?_ _)) hk6 (fun _ _ h => h)
                repeat (first | with_reducible exact h6 | with_reducible exact Keeps.refl _ _ | with_reducible refine Keeps.drew ?_ | with_reducible refine Keeps.drewN ?_ _ | with_reducible refine Keeps.alloc ?_ _ | with_reducible refine Keeps.setCell ?_ (by first | (intro h; simp at h; done) | (intro _; simp; done) | (intro _; simp; omega) | (intro h; simp at h; omega)) _)
          case rest =>
            obtain ⟨g, A3, c3, v', hs10, hgc, hc3, hs3, hch3, hk3⟩ := hcut
            subst hs10
            obtain ⟨Y, hY⟩ : ∃ Y, Y = wc := ⟨_, rfl⟩
            rw [← hY] at hgc hs3 hch3 hk3 ⊢
            have hg9 := hk3.blk HgX.out ⟨by omega, fun e => by have := (Hat.out.ch.own.lt _ e).2; omega⟩
            have Hs3 := Lib.hid hs3
            have Hc3 := Lib.hid hc3
            have Hch3 := Lib.hid hch3
            have Hxc := Lib.hid (show Ext w Y from Keeps.then_ HxX.out hk3 (fun i hi _ => Hkw.out i hi))
            have Hown7 := Lib.hid (Hown5.out.keep (hk3.mono (fun i _ h => Hkw.out i (Hok.out i h.1))) (fun j hj => hk3.block j (Hown5.out.lt j hj).2 ⟨fun e => Hown5.out.ne_blk HchX.out.blk (by decide) (e ▸ hj), fun e => Hown5.out.ne_own HchX.out.own (by decide) j e hj⟩))
            clear hY hs3 hc3 hch3 hk3 HA1 HA2
            have hbox1 : ∀ (Y : World) (j : Nat), Y.heap[g]? = some (.cells #[.int .i64 e.off, .int .i64 e.now, .string e.person, .slice A3 e.items.length c3, .int .u64 H] 33) → Y.cell? ⟨g, j, none⟩ = (#[.int .i64 e.off, .int .i64 e.now, .string e.person, .slice A3 e.items.length c3, .int .u64 H] : Array Value)[j]? := fun Y j h => by simp [World.cell?, h]
            have hbox2 : ∀ (Y : World) (j : Nat), Y.heap[wr.heap.size]? = some (.cells #[.int .i64 e.off, .int .i64 e.now, .string e.person, .slice A' e.items.length c', .int .u64 H] 30) → Y.cell? ⟨wr.heap.size, j, none⟩ = (#[.int .i64 e.off, .int .i64 e.now, .string e.person, .slice A' e.items.length c', .int .u64 H] : Array Value)[j]? := fun Y j h => by simp [World.cell?, h]
            go_wp2_with fail
            go_region_held3 (fun w' => w'.heap[g]? = some (.cells #[.int .i64 e.off, .int .i64 e.now, .string e.person, .slice A3 e.items.length c3, .int .u64 H] 33) ∧ w'.heap[wr.heap.size]? = some (.cells #[.int .i64 e.off, .int .i64 e.now, .string e.person, .slice A' e.items.length c', .int .u64 H] 30)) (refine ⟨?_, ?_⟩ <;> (repeat (first | with_reducible assumption | with_reducible refine blk_drew ?_ | with_reducible refine blk_drewN ?_ _ | with_reducible refine blk_old ?_ _ | with_reducible refine Ext.blk (by with_reducible assumption) ?_))) (first
              | (go_at_call 15; refine (law_told _ 1 _ [(⟨e.off, e.now, e.person, e.items, H⟩ : Ent)] (fun k => k < _) _ (one_ent (⟨e.off, e.now, e.person, e.items, H⟩ : Ent) (by repeat (first | with_reducible exact blk_new _ _ | (refine blk_new' _ _ _ ?_; simp; done) | with_reducible refine blk_drew ?_ | with_reducible refine blk_old ?_ _ | with_reducible refine Ext.blk hx5 ?_)) (by first | (simp; done) | (simp; omega)) Hc3.out ((Hs3.out.ext (by repeat (first | with_reducible exact Keeps.refl _ _ | with_reducible refine Keeps.drew ?_ | with_reducible refine Keeps.drewN ?_ _ | with_reducible refine Keeps.alloc ?_ _))).below)) (by decide) (fun _ h => h)).mono ?_; rintro _ w5 ⟨v5, rfl, hown5, hx5⟩; obtain ⟨A7, c7, rfl⟩ := hown5.form; have hy5 : Ext Y w5 := Keeps.trans (by repeat (first | with_reducible exact Keeps.refl _ _ | with_reducible refine Keeps.drew ?_ | with_reducible refine Keeps.drewN ?_ _ | with_reducible refine Keeps.alloc ?_ _)) hx5)
              | (go_at_call 14; refine (same_yes A7 _ 1 c7 _ [(⟨e.off, e.now, e.person, e.items, H⟩ : Ent)] (fun _ => True) (fun _ => True) _ ((hown5.sl (fun _ _ _ _ => trivial) (fun _ _ _ => trivial)).ext (by repeat (first | with_reducible exact Keeps.refl _ _ | with_reducible refine Keeps.drew ?_ | with_reducible refine Keeps.drewN ?_ _ | with_reducible refine Keeps.alloc ?_ _))) (one_ent (⟨e.off, e.now, e.person, e.items, H⟩ : Ent) (by repeat (first | with_reducible exact blk_new _ _ | (refine blk_new' _ _ _ ?_; simp; done) | with_reducible refine blk_drew ?_ | with_reducible refine blk_old ?_ _ | with_reducible refine Ext.blk hx5 ?_)) trivial hc' (((Hs'.out.ext Hxc.out).ext (by repeat (first | with_reducible exact hy5 | with_reducible exact Keeps.refl _ _ | with_reducible refine Keeps.drew ?_ | with_reducible refine Keeps.drewN ?_ _ | with_reducible refine Keeps.alloc ?_ _))).mono (fun _ _ _ => trivial))) (by decide) (by simp; omega)).mono ?_; rintro _ w6 ⟨rfl, m6, rfl⟩))
            all_goals
              have Hxx := Lib.hid hy5
              clear hbox1 hbox2 hown5 hx5 hy5
              go_wp2_with fail
              go_roundw
              case rel => exact ⟨k + 1, es' ++ [(⟨e.off, e.now, e.person, e.items, H⟩ : Ent)], v', A5, c5, by omega, by go_num, by simp [aheadOf], by simp, AddsAt.add Hat.out.len Hat.out.all Hent.out (Hch3.out.ext (by repeat (first | with_reducible exact Hxx.out | with_reducible exact Keeps.refl _ _ | with_reducible refine Keeps.drew ?_ | with_reducible refine Keeps.drewN ?_ _ | with_reducible refine Keeps.alloc ?_ _))) (Hown7.out.ext (by repeat (first | with_reducible exact Hxx.out | with_reducible exact Keeps.refl _ _ | with_reducible refine Keeps.drew ?_ | with_reducible refine Keeps.drewN ?_ _ | with_reducible refine Keeps.alloc ?_ _))) (Hxc.out.trans (by repeat (first | with_reducible exact Hxx.out | with_reducible exact Keeps.refl _ _ | with_reducible refine Keeps.drew ?_ | with_reducible refine Keeps.drewN ?_ _ | with_reducible refine Keeps.alloc ?_ _)))⟩
              case measure => simp [intOf]; omega
      · have hes : es'.length ≤ 31 := by omega
        have Hall := Lib.hid Hat.out.all
        have Hit := Lib.hid (show ∀ e ∈ es', e.items.length ≤ 1000 from fun e he => (Hat.out.all e he).n)
        have Hch := Lib.hid Hat.out.ch.at_
        have Hw := Lib.hid (show Sl entR (fun _ => True) wr Aw es'.length es' from Hat.out.want.sl (fun _ _ _ _ => trivial) (fun _ _ _ => trivial))
        have Hxw := Lib.hid Hat.out.ext
        go_wp2_with fail
        go_region_with (first
          | (go_at_call 16; refine (chain_Entries b seed es' vc _ (Hch.out.ext (by repeat (first | with_reducible exact Keeps.refl _ _ | with_reducible refine Keeps.drew ?_ | with_reducible refine Keeps.drewN ?_ _ | with_reducible refine Keeps.alloc ?_ _))) (by omega) Hit.out).mono ?_; rintro _ w4 ⟨A4, c4, rfl, hown4, hx4⟩; have hy4 : Ext wr w4 := Keeps.trans (by repeat (first | with_reducible exact Keeps.refl _ _ | with_reducible refine Keeps.drew ?_ | with_reducible refine Keeps.drewN ?_ _ | with_reducible refine Keeps.alloc ?_ _)) hx4)
          | (go_at_call 15; refine (law_told A4 es'.length c4 es' (fun k => k < _) _ (hown4.sl (ok' := fun _ => True) (fun _ _ _ _ => trivial) (fun _ _ _ => trivial)).below (by omega) (fun _ h => h)).mono ?_; rintro _ w5 ⟨v5, rfl, hown5, hx5⟩; obtain ⟨A5, c5, rfl⟩ := hown5.form; have hy5 : Ext wr w5 := hy4.trans hx5)
          | (go_at_call 14; refine (same_yes A5 Aw es'.length c5 cw es' (fun _ => True) (fun _ => True) _ (hown5.sl (fun _ _ _ _ => trivial) (fun _ _ _ => trivial)) (Hw.out.ext hy5) (by omega) Hit.out).mono ?_; rintro _ w6 ⟨rfl, m6, rfl⟩)
          | (go_at_call 17; refine (chain_Encode b seed Hseed.out.1 Hseed.out.2 es' vc _ (Hch.out.ext (by repeat (first | with_reducible exact hy5 | with_reducible exact Keeps.refl _ _ | with_reducible refine Keeps.drew ?_ | with_reducible refine Keeps.drewN ?_ _ | with_reducible refine Keeps.alloc ?_ _))) (by omega) Hall.out (Hpow.out.ext (Hxw.out.trans (by repeat (first | with_reducible exact hy5 | with_reducible exact Keeps.refl _ _ | with_reducible refine Keeps.drew ?_ | with_reducible refine Keeps.drewN ?_ _ | with_reducible refine Keeps.alloc ?_ _))))).mono ?_; rintro _ w7 ⟨A7, n7, c7, rfl, hb7, hx7⟩; have hcv7 := string_of_bts (P := Tryd.prog) w7 39 9 5 A7 c7 Tryd.underlying39 Tryd.underlying5 Tryd.underlying9 hb7; have hy7 : Ext wr w7 := Keeps.trans (by repeat (first | with_reducible exact hy5 | with_reducible exact Keeps.refl _ _ | with_reducible refine Keeps.drew ?_ | with_reducible refine Keeps.drewN ?_ _ | with_reducible refine Keeps.alloc ?_ _)) hx7)
          | (go_at_call 18; refine (ref_Encode seed Hseed.out.1 Hseed.out.2 Aw es'.length cw es' (fun _ => True) _ (Hw.out.ext hy7) (by omega) Hall.out).mono ?_; rintro _ w8 ⟨rfl, hx8⟩; have hcv8 := string_of_bts (P := Tryd.prog) w8 39 9 5 A7 c7 Tryd.underlying39 Tryd.underlying5 Tryd.underlying9 (hb7.ext hx8); have hy8 : Ext wr w8 := Keeps.trans hy7 hx8))
        all_goals
          have Hy := Lib.hid (Hxw.out.trans hy8)
          clear hown4 hown5 hx4 hx5 hx7 hx8 hy4 hy5 hy7 hy8 hb7 hcv7 hcv8
          go_wp2_with fail
          go_ret
          exact ⟨rfl, Hy.out⟩
end Go.Proofs.YtkfcbafmefdhmaaDoor
