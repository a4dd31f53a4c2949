/-
  What is proved here: the world, as an object: its parts in sight, one by one, and the way back. The pairs are left open: any object that may be none. No condition.
  what the world counts of an event (plain), and that all counts stay within their bounds. Conditions: events that may be, of short texts, each behind those ahead.
  the world counts an event. Conditions: it may be, is of short texts, stands behind all that was counted; counts that fit.
  the world puts an event that may be added (put). Conditions: those of counting it; a list that fits.
  a new world; what is counted made that of no events (New, clear). Conditions: a config that may be.
-/
import Derived.Test.YtpkkkhgmkndpdaaGreatDoorWoCrA
import Derived.Test.YtpkkkhgmkndpdaaGreatDoorWoCat
import Derived.Test.YtpkkkhgmkndpdaaGreatDoorWoDec
import Derived.Test.YtpkkkhgmkndpdaaGreatDoorEvLst
import Derived.Test.YtpkkkhgmkndpdaaGreatDoorEvCmp
import Derived.Test.YtpkkkhgmkndpdaaGreatDoorBase
import Derived.Deep.RegionWith
import Derived.Deep.RegionHeld3
import Derived.Deep.DeepCutAuto
import Derived.Deep.CutBlock
namespace Go.Proofs.YtpkkkhgmkndpdaaGreatDoor
open Go Go.RowKit Go.Proofs
def idW0 : Field := { name := "source", type := 9, offset := 0, embedded := false, tag := "", pkgPath := "cicerone/world", byteOffset := 0 }
def idW1 : Field := { name := "number", type := 3, offset := 1, embedded := false, tag := "", pkgPath := "cicerone/world", byteOffset := 16 }
theorem idT_world : IdT Tryz.prog 88 idW0 idW1 := ⟨Tryz.underlying88, by decide, by decide, Tryz.underlying9, Tryz.underlying3, rfl, rfl, by kernel_rfl⟩
/-- What pairs are: an object that may be none. -/
structure PrOb where
  γ : Type
  O : Ob (Option Nat) γ
  nil : γ
  none_ : ∀ w : World, O.rep w none [] nil
structure Wld (P : PrOb) where
  cfg : Cfg
  events : List Ev
  any : Bool
  last : Ev
  added : List (Idt × Bool)
  forgotten : List (ByteArray × Bool)
  cat : Cat
  crd : Crd
  pop : Dec
  pan : Pan
  ses : Ses
  pairs : P.γ
abbrev WldH := Value × Nat × Nat × Nat × Nat × Nat × Nat × Nat × Option Nat
def ptrV (b : Nat) : Value := .pointer (some ⟨b, 0, none⟩)
def optV (b : Option Nat) : Value := .pointer (b.map fun b => ⟨b, 0, none⟩)
def wldC {P : PrOb} (W : Wld P) (h : WldH) : Array Value := #[.int .i64 W.cfg.half, .int .i64 W.cfg.width, .int .i64 W.cfg.gap, .int .i64 W.cfg.span, .int .i64 W.cfg.floor, .int .i64 W.cfg.crowd, h.1, .bool W.any, .string W.last.src, .int .i64 W.last.num, .int .i64 W.last.tick, .int .i64 W.last.kind, .string W.last.person, .string W.last.item, .int .i64 W.last.value, .string W.last.text,
  .map (some h.2.1), .map (some h.2.2.1), ptrV h.2.2.2.1, ptrV h.2.2.2.2.1, ptrV h.2.2.2.2.2.1, ptrV h.2.2.2.2.2.2.1, ptrV h.2.2.2.2.2.2.2.1, optV h.2.2.2.2.2.2.2.2]
def Wld.sub {P : PrOb} (W : Wld P) := (W.events, W.added, W.forgotten, W.cat, W.crd, W.pop, W.pan, W.ses, W.pairs)
abbrev WldAt (P : PrOb) (w : World) (b : Nat) (fp : List Nat) (W : Wld P) : Prop := BoxAt 61 wldC (pairOb (rowOb evR 30) (pairOb (mpOb (idK idT_world) boolV) (pairOb (mpOb (strK (P := Tryz.prog) (kt := 9) Tryz.underlying9) boolV) (pairOb (boxOb 133 catC (mapOb (strK (P := Tryz.prog) (kt := 9) Tryz.underlying9) (fun v : Value => v) (rowOb stR 164)) Cat.things) (pairOb (boxOb 139 crdC (pairOb (mapOb (strK (P := Tryz.prog) (kt := 9) Tryz.underlying9) (fun v : Value => v) (rowOb deedR 167)) (pairOb (mpOb (twK linkT) boolV) (pairOb (mpOb (twK linkT) intV) (pairOb (mpOb (twK linkT) boolV) (pairOb (mpOb (twK linkT) boolV) (pairOb (mpOb (twK linkT) boolV) (pairOb (mpOb (twK linkT) boolV) (mpOb (strK (P := Tryz.prog) (kt := 9) Tryz.underlying9) intV)))))))) Crd.sub) (pairOb (boxOb 142 decC (mapOb (strK (P := Tryz.prog) (kt := 9) Tryz.underlying9) mapH (mpOb (intK (P := Tryz.prog) (kt := 3) Tryz.underlying3) i64V)) Dec.sums) (pairOb (boxOb 146 panC (pairOb (mpOb (idK cellT) i64V) (mapOb (strK (P := Tryz.prog) (kt := 9) Tryz.underlying9) (fun v : Value => v) (rowOb intR 3))) Pan.sub) (pairOb (boxOb 149 sesC (mapOb (strK (P := Tryz.prog) (kt := 9) Tryz.underlying9) mapH (mapOb (intK (P := Tryz.prog) (kt := 3) Tryz.underlying3) mapH (mpOb (strK (P := Tryz.prog) (kt := 9) Tryz.underlying9) boolV))) Ses.added) P.O)))))))) Wld.sub w b fp W
/-- What lay ahead of all of an object still lies there when it has turned. -/
theorem Turned.over {w0 w w' : World} {fp fp' : List Nat} (h : Turned fp fp' w w') (hx : Ext w0 w) (hf : ∀ g ∈ fp, w0.heap.size ≤ g) : Ext w0 w' ∧ ∀ g ∈ fp', w0.heap.size ≤ g :=
  ⟨Keeps.then_ hx h.keeps (fun g hl _ hg => by have := hf g hg; omega), fun g hg => by
    rcases h.grew g hg with h9 | h9
    · exact hf g h9
    · exact Nat.le_trans hx.size h9⟩
section
variable {P : PrOb} {w : World} {b : Nat} {fp : List Nat} {W : Wld P}
theorem WldAt.root (h : WldAt P w b fp W) : b ∈ fp ∧ b < w.heap.size := by
  obtain ⟨x, f, hb, _, _, _, hm, hl, _⟩ := BoxAt.focus h
  exact ⟨hm, hl⟩
def wLast (w : World) (b : Nat) (e : Ev) : World := ((((((((w.setCell ⟨b, 7, none⟩ (.bool true)).setCell ⟨b, 8, none⟩ (.string e.src)).setCell ⟨b, 9, none⟩ (.int .i64 e.num)).setCell ⟨b, 10, none⟩ (.int .i64 e.tick)).setCell ⟨b, 11, none⟩ (.int .i64 e.kind)).setCell ⟨b, 12, none⟩ (.string e.person)).setCell ⟨b, 13, none⟩ (.string e.item)).setCell ⟨b, 14, none⟩ (.int .i64 e.value)).setCell ⟨b, 15, none⟩ (.string e.text)
theorem wLast_keeps (w : World) (b : Nat) (e : Ev) : Keeps (fun g => g ≠ b) w (wLast w b e) := by
  unfold wLast
  exact ((((((((((Keeps.refl _ _).setCell (fun _ hn => hn rfl) _).setCell (fun _ hn => hn rfl) _).setCell (fun _ hn => hn rfl) _).setCell (fun _ hn => hn rfl) _).setCell (fun _ hn => hn rfl) _).setCell (fun _ hn => hn rfl) _).setCell (fun _ hn => hn rfl) _).setCell (fun _ hn => hn rfl) _).setCell (fun _ hn => hn rfl) _)
theorem wld_added (h : WldAt P w b fp W) : ∃ m, w.cell? ⟨b, 16, none⟩ = some (.map (some m)) ∧ m ≠ b ∧ m ∈ fp ∧ Mp (idK idT_world) boolV w m W.added ∧ ∀ (X : World) (v : List (Idt × Bool)), Mp (idK idT_world) boolV X m v → Keeps (fun g => g ≠ m) w X → ∃ fp', WldAt P X b fp' { W with added := v } ∧ Turned fp fp' w X := by
  obtain ⟨x, f0, hb, h0, s0, n0, _, _, k0, kk⟩ := BoxAt.focus h
  obtain ⟨f1, h1, s1, k1⟩ := PairAt.focus2 h0
  obtain ⟨f2, h2, s2, k2⟩ := PairAt.focus1 h1
  obtain ⟨hm, rfl⟩ := h2
  refine ⟨_, blk_cell hb 16 rfl, fun e => n0 (e ▸ (s1 _ (s2 _ (by simp)))), s0 _ (s1 _ (s2 _ (by simp))), hm, fun X v hv hk => ?_⟩
  obtain ⟨_, r2, t2⟩ := k2 X _ _ v ⟨hv, rfl⟩ (mp_turned hk)
  obtain ⟨_, r1, t1⟩ := k1 X _ _ _ r2 t2
  exact k0 X _ { W with added := v } r1 t1 rfl
theorem wld_forgotten (h : WldAt P w b fp W) : ∃ m, w.cell? ⟨b, 17, none⟩ = some (.map (some m)) ∧ m ≠ b ∧ m ∈ fp ∧ Mp (strK (P := Tryz.prog) (kt := 9) Tryz.underlying9) boolV w m W.forgotten ∧ ∀ (X : World) (v : List (ByteArray × Bool)), Mp (strK (P := Tryz.prog) (kt := 9) Tryz.underlying9) boolV X m v → Keeps (fun g => g ≠ m) w X → ∃ fp', WldAt P X b fp' { W with forgotten := v } ∧ Turned fp fp' w X := by
  obtain ⟨x, f0, hb, h0, s0, n0, _, _, k0, kk⟩ := BoxAt.focus h
  obtain ⟨f1, h1, s1, k1⟩ := PairAt.focus2 h0
  obtain ⟨f2, h2, s2, k2⟩ := PairAt.focus2 h1
  obtain ⟨f3, h3, s3, k3⟩ := PairAt.focus1 h2
  obtain ⟨hm, rfl⟩ := h3
  refine ⟨_, blk_cell hb 17 rfl, fun e => n0 (e ▸ (s1 _ (s2 _ (s3 _ (by simp))))), s0 _ (s1 _ (s2 _ (s3 _ (by simp)))), hm, fun X v hv hk => ?_⟩
  obtain ⟨_, r3, t3⟩ := k3 X _ _ v ⟨hv, rfl⟩ (mp_turned hk)
  obtain ⟨_, r2, t2⟩ := k2 X _ _ _ r3 t3
  obtain ⟨_, r1, t1⟩ := k1 X _ _ _ r2 t2
  exact k0 X _ { W with forgotten := v } r1 t1 rfl
theorem wld_cat (h : WldAt P w b fp W) : ∃ m f, w.cell? ⟨b, 18, none⟩ = some (ptrV m) ∧ CatAt w m f W.cat ∧ (∀ g ∈ f, g ∈ fp) ∧ b ∉ f ∧ ∀ (X : World) (f' : List Nat) (c' : Cat), CatAt X m f' c' → Turned f f' w X → ∃ fp', WldAt P X b fp' { W with cat := c' } ∧ Turned fp fp' w X := by
  obtain ⟨x, f0, hb, h0, s0, n0, _, _, k0, kk⟩ := BoxAt.focus h
  obtain ⟨f1, h1, s1, k1⟩ := PairAt.focus2 h0
  obtain ⟨f2, h2, s2, k2⟩ := PairAt.focus2 h1
  obtain ⟨f3, h3, s3, k3⟩ := PairAt.focus2 h2
  obtain ⟨f4, h4, s4, k4⟩ := PairAt.focus1 h3
  refine ⟨_, _, blk_cell hb 18 rfl, h4, fun g hg => s0 _ (s1 _ (s2 _ (s3 _ (s4 _ hg)))), fun hm => n0 (s1 _ (s2 _ (s3 _ (s4 _ hm)))), fun X f' c' hc ht => ?_⟩
  obtain ⟨_, r4, t4⟩ := k4 X _ _ c' hc ht
  obtain ⟨_, r3, t3⟩ := k3 X _ _ _ r4 t4
  obtain ⟨_, r2, t2⟩ := k2 X _ _ _ r3 t3
  obtain ⟨_, r1, t1⟩ := k1 X _ _ _ r2 t2
  exact k0 X _ { W with cat := c' } r1 t1 rfl
theorem wld_crd (h : WldAt P w b fp W) : ∃ m f, w.cell? ⟨b, 19, none⟩ = some (ptrV m) ∧ CrdAt w m f W.crd ∧ (∀ g ∈ f, g ∈ fp) ∧ b ∉ f ∧ ∀ (X : World) (f' : List Nat) (c' : Crd), CrdAt X m f' c' → Turned f f' w X → ∃ fp', WldAt P X b fp' { W with crd := c' } ∧ Turned fp fp' w X := by
  obtain ⟨x, f0, hb, h0, s0, n0, _, _, k0, kk⟩ := BoxAt.focus h
  obtain ⟨f1, h1, s1, k1⟩ := PairAt.focus2 h0
  obtain ⟨f2, h2, s2, k2⟩ := PairAt.focus2 h1
  obtain ⟨f3, h3, s3, k3⟩ := PairAt.focus2 h2
  obtain ⟨f4, h4, s4, k4⟩ := PairAt.focus2 h3
  obtain ⟨f5, h5, s5, k5⟩ := PairAt.focus1 h4
  refine ⟨_, _, blk_cell hb 19 rfl, h5, fun g hg => s0 _ (s1 _ (s2 _ (s3 _ (s4 _ (s5 _ hg))))), fun hm => n0 (s1 _ (s2 _ (s3 _ (s4 _ (s5 _ hm))))), fun X f' c' hc ht => ?_⟩
  obtain ⟨_, r5, t5⟩ := k5 X _ _ c' hc ht
  obtain ⟨_, r4, t4⟩ := k4 X _ _ _ r5 t5
  obtain ⟨_, r3, t3⟩ := k3 X _ _ _ r4 t4
  obtain ⟨_, r2, t2⟩ := k2 X _ _ _ r3 t3
  obtain ⟨_, r1, t1⟩ := k1 X _ _ _ r2 t2
  exact k0 X _ { W with crd := c' } r1 t1 rfl
theorem wld_pop (h : WldAt P w b fp W) : ∃ m f, w.cell? ⟨b, 20, none⟩ = some (ptrV m) ∧ DecAt w m f W.pop ∧ (∀ g ∈ f, g ∈ fp) ∧ b ∉ f ∧ ∀ (X : World) (f' : List Nat) (c' : Dec), DecAt X m f' c' → Turned f f' w X → ∃ fp', WldAt P X b fp' { W with pop := c' } ∧ Turned fp fp' w X := by
  obtain ⟨x, f0, hb, h0, s0, n0, _, _, k0, kk⟩ := BoxAt.focus h
  obtain ⟨f1, h1, s1, k1⟩ := PairAt.focus2 h0
  obtain ⟨f2, h2, s2, k2⟩ := PairAt.focus2 h1
  obtain ⟨f3, h3, s3, k3⟩ := PairAt.focus2 h2
  obtain ⟨f4, h4, s4, k4⟩ := PairAt.focus2 h3
  obtain ⟨f5, h5, s5, k5⟩ := PairAt.focus2 h4
  obtain ⟨f6, h6, s6, k6⟩ := PairAt.focus1 h5
  refine ⟨_, _, blk_cell hb 20 rfl, h6, fun g hg => s0 _ (s1 _ (s2 _ (s3 _ (s4 _ (s5 _ (s6 _ hg)))))), fun hm => n0 (s1 _ (s2 _ (s3 _ (s4 _ (s5 _ (s6 _ hm)))))), fun X f' c' hc ht => ?_⟩
  obtain ⟨_, r6, t6⟩ := k6 X _ _ c' hc ht
  obtain ⟨_, r5, t5⟩ := k5 X _ _ _ r6 t6
  obtain ⟨_, r4, t4⟩ := k4 X _ _ _ r5 t5
  obtain ⟨_, r3, t3⟩ := k3 X _ _ _ r4 t4
  obtain ⟨_, r2, t2⟩ := k2 X _ _ _ r3 t3
  obtain ⟨_, r1, t1⟩ := k1 X _ _ _ r2 t2
  exact k0 X _ { W with pop := c' } r1 t1 rfl
theorem wld_pan (h : WldAt P w b fp W) : ∃ m f, w.cell? ⟨b, 21, none⟩ = some (ptrV m) ∧ PanAt w m f W.pan ∧ (∀ g ∈ f, g ∈ fp) ∧ b ∉ f ∧ ∀ (X : World) (f' : List Nat) (c' : Pan), PanAt X m f' c' → Turned f f' w X → ∃ fp', WldAt P X b fp' { W with pan := c' } ∧ Turned fp fp' w X := by
  obtain ⟨x, f0, hb, h0, s0, n0, _, _, k0, kk⟩ := BoxAt.focus h
  obtain ⟨f1, h1, s1, k1⟩ := PairAt.focus2 h0
  obtain ⟨f2, h2, s2, k2⟩ := PairAt.focus2 h1
  obtain ⟨f3, h3, s3, k3⟩ := PairAt.focus2 h2
  obtain ⟨f4, h4, s4, k4⟩ := PairAt.focus2 h3
  obtain ⟨f5, h5, s5, k5⟩ := PairAt.focus2 h4
  obtain ⟨f6, h6, s6, k6⟩ := PairAt.focus2 h5
  obtain ⟨f7, h7, s7, k7⟩ := PairAt.focus1 h6
  refine ⟨_, _, blk_cell hb 21 rfl, h7, fun g hg => s0 _ (s1 _ (s2 _ (s3 _ (s4 _ (s5 _ (s6 _ (s7 _ hg))))))), fun hm => n0 (s1 _ (s2 _ (s3 _ (s4 _ (s5 _ (s6 _ (s7 _ hm))))))), fun X f' c' hc ht => ?_⟩
  obtain ⟨_, r7, t7⟩ := k7 X _ _ c' hc ht
  obtain ⟨_, r6, t6⟩ := k6 X _ _ _ r7 t7
  obtain ⟨_, r5, t5⟩ := k5 X _ _ _ r6 t6
  obtain ⟨_, r4, t4⟩ := k4 X _ _ _ r5 t5
  obtain ⟨_, r3, t3⟩ := k3 X _ _ _ r4 t4
  obtain ⟨_, r2, t2⟩ := k2 X _ _ _ r3 t3
  obtain ⟨_, r1, t1⟩ := k1 X _ _ _ r2 t2
  exact k0 X _ { W with pan := c' } r1 t1 rfl
theorem wld_ses (h : WldAt P w b fp W) : ∃ m f, w.cell? ⟨b, 22, none⟩ = some (ptrV m) ∧ SesAt w m f W.ses ∧ (∀ g ∈ f, g ∈ fp) ∧ b ∉ f ∧ ∀ (X : World) (f' : List Nat) (c' : Ses), SesAt X m f' c' → Turned f f' w X → ∃ fp', WldAt P X b fp' { W with ses := c' } ∧ Turned fp fp' w X := by
  obtain ⟨x, f0, hb, h0, s0, n0, _, _, k0, kk⟩ := BoxAt.focus h
  obtain ⟨f1, h1, s1, k1⟩ := PairAt.focus2 h0
  obtain ⟨f2, h2, s2, k2⟩ := PairAt.focus2 h1
  obtain ⟨f3, h3, s3, k3⟩ := PairAt.focus2 h2
  obtain ⟨f4, h4, s4, k4⟩ := PairAt.focus2 h3
  obtain ⟨f5, h5, s5, k5⟩ := PairAt.focus2 h4
  obtain ⟨f6, h6, s6, k6⟩ := PairAt.focus2 h5
  obtain ⟨f7, h7, s7, k7⟩ := PairAt.focus2 h6
  obtain ⟨f8, h8, s8, k8⟩ := PairAt.focus1 h7
  refine ⟨_, _, blk_cell hb 22 rfl, h8, fun g hg => s0 _ (s1 _ (s2 _ (s3 _ (s4 _ (s5 _ (s6 _ (s7 _ (s8 _ hg)))))))), fun hm => n0 (s1 _ (s2 _ (s3 _ (s4 _ (s5 _ (s6 _ (s7 _ (s8 _ hm)))))))), fun X f' c' hc ht => ?_⟩
  obtain ⟨_, r8, t8⟩ := k8 X _ _ c' hc ht
  obtain ⟨_, r7, t7⟩ := k7 X _ _ _ r8 t8
  obtain ⟨_, r6, t6⟩ := k6 X _ _ _ r7 t7
  obtain ⟨_, r5, t5⟩ := k5 X _ _ _ r6 t6
  obtain ⟨_, r4, t4⟩ := k4 X _ _ _ r5 t5
  obtain ⟨_, r3, t3⟩ := k3 X _ _ _ r4 t4
  obtain ⟨_, r2, t2⟩ := k2 X _ _ _ r3 t3
  obtain ⟨_, r1, t1⟩ := k1 X _ _ _ r2 t2
  exact k0 X _ { W with ses := c' } r1 t1 rfl
theorem wld_events (h : WldAt P w b fp W) : ∃ v fs, w.cell? ⟨b, 6, none⟩ = some v ∧ RowAt evR 30 w v fs W.events ∧ (∀ g ∈ v.ownBlock.toList ++ fs, g ∈ fp) ∧ b ∉ v.ownBlock.toList ++ fs ∧ ∀ (X : World) (v' : Value) (fs' : List Nat) (l' : List Ev), RowAt evR 30 X v' fs' l' → Turned (v.ownBlock.toList ++ fs) (v'.ownBlock.toList ++ fs') w X → ∃ fp', WldAt P (X.setCell ⟨b, 6, none⟩ v') b fp' { W with events := l' } ∧ Turned fp fp' w (X.setCell ⟨b, 6, none⟩ v') := by
  obtain ⟨x, f0, hb, h0, s0, n0, _, _, k0, kk⟩ := BoxAt.focus h
  obtain ⟨f1, h1, s1, k1⟩ := PairAt.focus1 h0
  obtain ⟨fs, hr, rfl⟩ := h1
  refine ⟨_, fs, blk_cell hb 6 rfl, hr, fun g hg => s0 _ (s1 _ hg), fun hm => n0 (s1 _ hm), fun X v' fs' l' hc ht => ?_⟩
  obtain ⟨_, r1, t1⟩ := k1 X v' _ l' ⟨fs', hc, rfl⟩ ht
  refine kk X (v', x.2) _ { W with events := l' } _ r1 t1 rfl _ ?_ ((Keeps.refl _ _).setCell (fun _ hn => hn rfl) _)
  have h9 := blk_set (t1.keeps.blk hb n0) 6 v'
  simp only [wldC, List.setIfInBounds_toArray, List.set_cons_zero, List.set_cons_succ] at h9
  exact h9
theorem wld_nopairs (h : WldAt P w b fp W) : ∃ fp', WldAt P (w.setCell ⟨b, 23, none⟩ (.pointer none)) b fp' { W with pairs := P.nil } ∧ Turned fp fp' w (w.setCell ⟨b, 23, none⟩ (.pointer none)) := by
  obtain ⟨x, f0, hb, h0, s0, n0, _, _, k0, kk⟩ := BoxAt.focus h
  obtain ⟨f1, h1, s1, k1⟩ := PairAt.focus2 h0
  obtain ⟨f2, h2, s2, k2⟩ := PairAt.focus2 h1
  obtain ⟨f3, h3, s3, k3⟩ := PairAt.focus2 h2
  obtain ⟨f4, h4, s4, k4⟩ := PairAt.focus2 h3
  obtain ⟨f5, h5, s5, k5⟩ := PairAt.focus2 h4
  obtain ⟨f6, h6, s6, k6⟩ := PairAt.focus2 h5
  obtain ⟨f7, h7, s7, k7⟩ := PairAt.focus2 h6
  obtain ⟨f8, h8, s8, k8⟩ := PairAt.focus2 h7
  obtain ⟨_, r8, t8⟩ := k8 w none [] P.nil (P.none_ w) ⟨Keeps.refl _ _, fun g hg => by cases hg⟩
  obtain ⟨_, r7, t7⟩ := k7 w _ _ _ r8 t8
  obtain ⟨_, r6, t6⟩ := k6 w _ _ _ r7 t7
  obtain ⟨_, r5, t5⟩ := k5 w _ _ _ r6 t6
  obtain ⟨_, r4, t4⟩ := k4 w _ _ _ r5 t5
  obtain ⟨_, r3, t3⟩ := k3 w _ _ _ r4 t4
  obtain ⟨_, r2, t2⟩ := k2 w _ _ _ r3 t3
  obtain ⟨_, r1, t1⟩ := k1 w _ _ _ r2 t2
  refine kk w (x.1, x.2.1, x.2.2.1, x.2.2.2.1, x.2.2.2.2.1, x.2.2.2.2.2.1, x.2.2.2.2.2.2.1, x.2.2.2.2.2.2.2.1, none) _ { W with pairs := P.nil } _ r1 t1 rfl _ ?_ ((Keeps.refl _ _).setCell (fun _ hn => hn rfl) _)
  have h9 := blk_set hb 23 (.pointer none)
  simp only [wldC, List.setIfInBounds_toArray, List.set_cons_zero, List.set_cons_succ] at h9
  exact h9
theorem wld_last (h : WldAt P w b fp W) (e : Ev) : ∃ fp', WldAt P (wLast w b e) b fp' { W with any := true, last := e } ∧ Turned fp fp' w (wLast w b e) := by
  obtain ⟨x, f0, hb, h0, s0, n0, _, _, k0, kk⟩ := BoxAt.focus h
  refine kk w x _ { W with any := true, last := e } _ h0 (Turned.refl _ _) rfl _ ?_ (wLast_keeps w b e)
  have h9 := blk_set (blk_set (blk_set (blk_set (blk_set (blk_set (blk_set (blk_set (blk_set hb 7 (.bool true)) 8 (.string e.src)) 9 (.int .i64 e.num)) 10 (.int .i64 e.tick)) 11 (.int .i64 e.kind)) 12 (.string e.person)) 13 (.string e.item)) 14 (.int .i64 e.value)) 15 (.string e.text)
  simp only [wldC, List.setIfInBounds_toArray, List.set_cons_zero, List.set_cons_succ] at h9
  exact h9
end
end Go.Proofs.YtpkkkhgmkndpdaaGreatDoor
namespace Go.Proofs.YtpkkkhgmkndpdaaGreatDoor
open Go Go.RowKit Go.Proofs
section
variable {P : PrOb}
def tagsW (c : Cat) (e : Ev) : List ByteArray := match catAt c e.item e.tick with | some s => tagsB (⟨#[59]⟩ ++ s.tags) | none => []
def isThing (e : Ev) : Bool := decide (e.kind = 11) || decide (e.kind = 12) || decide (e.kind = 13)
/-- What of an event that is worth something is counted. -/
def wldWorth (W : Wld P) (e : Ev) : Wld P :=
  if 0 < worthE e then { W with pop := decAdd W.pop e.item e.tick (worthE e), pan := panAdd W.pan e.item e.tick (worthE e), ses := sesAdd W.ses e.person e.tick e.item, pairs := P.nil } else W
def wldCount (W : Wld P) (e : Ev) : Wld P :=
  if isThing e = true then { W with cat := catPut W.cat e }
  else if e.kind = 14 then W
  else wldWorth { W with crd := crdAdd W.crd e (tagsW W.cat e) } e
/-- Behind the last one that was counted. -/
def Aft (L : Option Ev) (e : Ev) : Prop := ∀ x, L = some x → cmpE e x = 1
/-- An event of texts that are short. -/
structure EvTn (e : Ev) : Prop where
  src : e.src.size ≤ 1000
  person : e.person.size ≤ 1000
  item : e.item.size ≤ 1000
  text : e.text.size ≤ 1000
theorem EvTn.sm {e : Ev} (h : EvTn e) : EvSm e := ⟨by have := h.src; omega, by have := h.person; omega, by have := h.item; omega, by have := h.text; omega⟩
structure CatOk (n : Nat) (L : Option Ev) (c : Cat) : Prop where
  ris : ∀ name, RisS (rowS c.things name)
  len : ∀ name, (rowS c.things name).length ≤ n
  tags : ∀ name s, s ∈ rowS c.things name → s.tags.size ≤ 1000
  tick : ∀ e, Aft L e → ∀ name s, s ∈ rowS c.things name → s.tick ≤ e.tick
  last : ∀ e, Aft L e → c.any = false ∨ cmpE e c.last = 1
structure CrdOk (n : Nat) (L : Option Ev) (c : Crd) : Prop where
  app : c.applied ≤ n
  len : ∀ p, (rowD c.people p).length ≤ n
  shown : ∀ t, 0 ≤ cntL c.shown t ∧ cntL c.shown t ≤ n
  fans : ∀ s, 0 ≤ fanL c.fans s ∧ fanL c.fans s ≤ n
  last : ∀ e, Aft L e → c.applied = 0 ∨ cmpE e c.last = 1
structure CntOk (n : Nat) (L : Option Ev) (W : Wld P) : Prop where
  cat : CatOk n L W.cat
  crd : CrdOk n L W.crd
  dec : DecOk W.pop
  deca : W.pop.added ≤ n
  pan : PanOk W.pan
  pana : W.pan.added ≤ n

theorem cmpE_one {a b : Ev} : cmpE a b = 1 ↔ lessE b a = true := by
  rcases cmpE_cases a b with ⟨h1, _, _, h4⟩ | ⟨h1, _, _, h4, _⟩ | ⟨h1, _, _, h4⟩
  · rw [h1, h4]; simp
  · rw [h1, h4]; simp
  · rw [h1, h4]; simp
theorem cmpE_tr1 {a b c : Ev} (h : cmpE a b = 1) (k : cmpE b c = 1) : cmpE a c = 1 := cmpE_one.2 (lessE_trans (cmpE_one.1 k) (cmpE_one.1 h))
theorem cmpE_tick {a b : Ev} (h : cmpE a b = 1) : b.tick ≤ a.tick := by
  have h9 := cmpE_one.1 h
  unfold lessE at h9
  split at h9
  · simp at h9; omega
  · omega
theorem aft_aft {L : Option Ev} {e y : Ev} (h : Aft L e) (hy : Aft (some e) y) : Aft L y := fun x hx => cmpE_tr1 (hy e rfl) (h x hx)
theorem aft_tick {e y : Ev} (hy : Aft (some e) y) : e.tick ≤ y.tick := cmpE_tick (hy e rfl)
theorem rowS_self (l : List (ByteArray × List St)) (k : ByteArray) (v : List St) : rowS (putM (fun a b : ByteArray => a == b) l k v) k = v := congrArg (fun o => Option.getD o []) (getM_putM_self (strK (P := Tryz.prog) (kt := 9) Tryz.underlying9) l k v)
theorem rowS_ne (l : List (ByteArray × List St)) {k k' : ByteArray} (v : List St) (h : k' ≠ k) : rowS (putM (fun a b : ByteArray => a == b) l k v) k' = rowS l k' := congrArg (fun o => Option.getD o []) (getM_putM_ne (strK (P := Tryz.prog) (kt := 9) Tryz.underlying9) l v h)
theorem rowD_self (l : List (ByteArray × List Deed)) (k : ByteArray) (v : List Deed) : rowD (putM (fun a b : ByteArray => a == b) l k v) k = v := congrArg (fun o => Option.getD o []) (getM_putM_self (strK (P := Tryz.prog) (kt := 9) Tryz.underlying9) l k v)
theorem rowD_ne (l : List (ByteArray × List Deed)) {k k' : ByteArray} (v : List Deed) (h : k' ≠ k) : rowD (putM (fun a b : ByteArray => a == b) l k v) k' = rowD l k' := congrArg (fun o => Option.getD o []) (getM_putM_ne (strK (P := Tryz.prog) (kt := 9) Tryz.underlying9) l v h)
theorem fanL_self (l : List (ByteArray × Int)) (k : ByteArray) (v : Int) : fanL (putM (fun a b : ByteArray => a == b) l k v) k = v := congrArg (fun o => Option.getD o 0) (getM_putM_self (strK (P := Tryz.prog) (kt := 9) Tryz.underlying9) l k v)
theorem fanL_ne (l : List (ByteArray × Int)) {k k' : ByteArray} (v : Int) (h : k' ≠ k) : fanL (putM (fun a b : ByteArray => a == b) l k v) k' = fanL l k' := congrArg (fun o => Option.getD o 0) (getM_putM_ne (strK (P := Tryz.prog) (kt := 9) Tryz.underlying9) l v h)
theorem cntL_self (l : List (Twt × Int)) (k : Twt) (v : Int) : cntL (putM (fun a b : Twt => a.1 == b.1 && a.2 == b.2) l k v) k = v := congrArg (fun o => Option.getD o 0) (getM_putM_self (twK linkT) l k v)
theorem cntL_ne (l : List (Twt × Int)) {k k' : Twt} (v : Int) (h : k' ≠ k) : cntL (putM (fun a b : Twt => a.1 == b.1 && a.2 == b.2) l k v) k' = cntL l k' := congrArg (fun o => Option.getD o 0) (getM_putM_ne (twK linkT) l v h)
theorem next_tick (s : St) (e : Ev) : (stNext s e).tick = e.tick := by unfold stNext; repeat (first | rfl | split)
theorem next_tags {s : St} {e : Ev} {n : Nat} (h1 : s.tags.size ≤ n) (h2 : e.text.size ≤ n) : (stNext s e).tags.size ≤ n := by
  unfold stNext
  split
  · have := restB_size e.text
    show (restB e.text).size ≤ n
    omega
  · split <;> exact h1
theorem last_tags {l : List St} {name : ByteArray} {n : Nat} (h : ∀ s ∈ l, s.tags.size ≤ n) : (stLast l name).tags.size ≤ n := by
  unfold stLast
  cases hl : l.getLast? with
  | none => exact Nat.zero_le _
  | some s => exact h s (List.mem_of_getLast? hl)
theorem catPut_ok {n : Nat} {L : Option Ev} {c : Cat} {e : Ev} (h : CatOk n L c) (ha : Aft L e) (ht : EvTn e) : CatOk (n + 1) (some e) (catPut c e) where
  ris name := by
    unfold catPut
    by_cases hk : name = e.item
    · subst hk
      simp only [rowS_self]
      unfold RisS
      rw [List.pairwise_append]
      refine ⟨h.ris _, by simp, fun a ha' b hb => ?_⟩
      rw [List.mem_singleton.1 hb, next_tick]
      exact h.tick e ha _ a ha'
    · simp only [rowS_ne _ _ hk]; exact h.ris name
  len name := by
    unfold catPut
    by_cases hk : name = e.item
    · subst hk
      simp only [rowS_self]
      have := h.len e.item
      simp; omega
    · simp only [rowS_ne _ _ hk]; have := h.len name; omega
  tags name s hs := by
    unfold catPut at hs
    by_cases hk : name = e.item
    · subst hk
      simp only [rowS_self] at hs
      rcases List.mem_append.1 hs with h9 | h9
      · exact h.tags _ s h9
      · rw [List.mem_singleton.1 h9]
        exact next_tags (last_tags (fun s hs => h.tags _ s hs)) ht.text
    · simp only [rowS_ne _ _ hk] at hs; exact h.tags name s hs
  tick y hy name s hs := by
    unfold catPut at hs
    by_cases hk : name = e.item
    · subst hk
      simp only [rowS_self] at hs
      rcases List.mem_append.1 hs with h9 | h9
      · exact h.tick y (aft_aft ha hy) _ s h9
      · rw [List.mem_singleton.1 h9, next_tick]
        exact aft_tick hy
    · simp only [rowS_ne _ _ hk] at hs; exact h.tick y (aft_aft ha hy) name s hs
  last y hy := .inr (hy e rfl)
theorem CatOk.more {n : Nat} {L : Option Ev} {c : Cat} {e : Ev} (h : CatOk n L c) (ha : Aft L e) : CatOk (n + 1) (some e) c :=
  ⟨h.ris, fun k => Nat.le_succ_of_le (h.len k), h.tags, fun y hy => h.tick y (aft_aft ha hy), fun y hy => h.last y (aft_aft ha hy)⟩
theorem CrdOk.more {n : Nat} {L : Option Ev} {c : Crd} {e : Ev} (h : CrdOk n L c) (ha : Aft L e) : CrdOk (n + 1) (some e) c :=
  ⟨Nat.le_succ_of_le h.app, fun k => Nat.le_succ_of_le (h.len k), fun t => ⟨(h.shown t).1, by have := (h.shown t).2; omega⟩, fun t => ⟨(h.fans t).1, by have := (h.fans t).2; omega⟩, fun y hy => h.last y (aft_aft ha hy)⟩
theorem kind_people (c : Crd) (e : Ev) : (crdKind c e).people = c.people ∧ (crdKind c e).applied = c.applied ∧ (crdKind c e).last = c.last := by
  unfold crdKind
  repeat (first | exact ⟨rfl, rfl, rfl⟩ | split)
theorem like_same (c : Crd) (e : Ev) : (crdLike c e).people = c.people ∧ (crdLike c e).applied = c.applied ∧ (crdLike c e).last = c.last ∧ (crdLike c e).shown = c.shown := by
  unfold crdLike
  split <;> exact ⟨rfl, rfl, rfl, rfl⟩
theorem note_same (c : Crd) (e : Ev) : (crdNote c e).people = c.people ∧ (crdNote c e).applied = c.applied ∧ (crdNote c e).last = c.last ∧ (crdNote c e).shown = (crdKind c e).shown := by
  obtain ⟨h1, h2, h3, h4⟩ := like_same (crdKind c e) e
  obtain ⟨k1, k2, k3⟩ := kind_people c e
  unfold crdNote
  exact ⟨h1.trans k1, h2.trans k2, h3.trans k3, h4⟩
theorem crdAdd_ok {n : Nat} {L : Option Ev} {c : Crd} {e : Ev} {tags : List ByteArray} (h : CrdOk n L c) : CrdOk (n + 1) (some e) (crdAdd c e tags) := by
  unfold crdAdd
  obtain ⟨h1, h2, h3, h4⟩ := note_same (crdPut c e tags) e
  refine ⟨?_, fun p => ?_, fun t => ?_, fun s => ?_, fun y hy => ?_⟩
  · rw [h2]; show c.applied + 1 ≤ n + 1; have := h.app; omega
  · rw [h1]
    show (rowD (putM (fun a b : ByteArray => a == b) c.people e.person (rowD c.people e.person ++ [⟨e, tagsK tags⟩])) p).length ≤ n + 1
    by_cases hk : p = e.person
    · subst hk
      rw [rowD_self]
      have := h.len e.person
      simp; omega
    · rw [rowD_ne _ _ hk]; have := h.len p; omega
  · rw [h4]
    have hs := h.shown
    unfold crdKind
    split
    · show 0 ≤ cntL (putM (fun a b : Twt => a.1 == b.1 && a.2 == b.2) c.shown (e.person, e.item) (cntL c.shown (e.person, e.item) + 1)) t ∧ cntL (putM (fun a b : Twt => a.1 == b.1 && a.2 == b.2) c.shown (e.person, e.item) (cntL c.shown (e.person, e.item) + 1)) t ≤ ((n + 1 : Nat) : Int)
      by_cases hk : t = (e.person, e.item)
      · subst hk
        rw [cntL_self]
        have := hs (e.person, e.item)
        omega
      · rw [cntL_ne _ _ hk]; have := hs t; omega
    · have h9 : 0 ≤ cntL c.shown t ∧ cntL c.shown t ≤ ((n + 1 : Nat) : Int) := by have := hs t; omega
      repeat (first | exact h9 | split)
  · have hf := h.fans
    have h8 : (crdKind (crdPut c e tags) e).fans = c.fans := (kind_liked (crdPut c e tags) e).2
    unfold crdNote crdLike
    split
    · show 0 ≤ fanL (putM (fun a b : ByteArray => a == b) (crdKind (crdPut c e tags) e).fans e.item (fanL (crdKind (crdPut c e tags) e).fans e.item + 1)) s ∧ fanL (putM (fun a b : ByteArray => a == b) (crdKind (crdPut c e tags) e).fans e.item (fanL (crdKind (crdPut c e tags) e).fans e.item + 1)) s ≤ ((n + 1 : Nat) : Int)
      rw [h8]
      by_cases hk : s = e.item
      · subst hk
        rw [fanL_self]
        have := hf e.item
        omega
      · rw [fanL_ne _ _ hk]; have := hf s; omega
    · rw [h8]; have := hf s; omega
  · rw [h3]
    exact .inr (hy e rfl)
theorem worth_bounds {e : Ev} (h : mayE e = true) : 0 ≤ worthE e ∧ worthE e ≤ 5 := by
  unfold worthE
  by_cases h4 : e.kind = 4
  case neg => repeat (first | (rw [if_neg h4]; constructor <;> decide) | (constructor <;> decide) | split)
  rw [if_neg (by omega), if_neg (by omega), if_neg (by omega), if_pos h4]
  unfold mayE at h
  rw [Bool.and_eq_true, tail_b h4] at h
  simp only [Bool.and_eq_true, decide_eq_true_eq] at h
  omega
theorem decAdd_added (d : Dec) (k : ByteArray) (a n : Int) : (decAdd d k a n).added = d.added + 1 := by unfold decAdd decPut; split <;> rfl
theorem panAdd_added (d : Pan) (k : ByteArray) (a n : Int) : (panAdd d k a n).added = d.added + 1 := by unfold panAdd panPut; split <;> rfl
theorem worth_ok {n : Nat} {L : Option Ev} {W : Wld P} {e : Ev} (h1 : CatOk (n + 1) L W.cat) (h2 : CrdOk (n + 1) L W.crd) (h3 : DecOk W.pop) (h4 : W.pop.added ≤ n) (h5 : PanOk W.pan) (h6 : W.pan.added ≤ n) (hm : mayE e = true) : CntOk (n + 1) L (wldWorth W e) := by
  have hb := worth_bounds hm
  unfold wldWorth
  split
  · exact ⟨h1, h2, decAdd_ok h3 _ _ hb.1 (by omega), by show (decAdd W.pop _ _ _).added ≤ n + 1; rw [decAdd_added]; omega, panAdd_ok h5 _ _ hb.1 (by omega), by show (panAdd W.pan _ _ _).added ≤ n + 1; rw [panAdd_added]; omega⟩
  · exact ⟨h1, h2, h3, by omega, h5, by omega⟩
theorem count_ok {n : Nat} {L : Option Ev} {W : Wld P} {e : Ev} (h : CntOk n L W) (ha : Aft L e) (ht : EvTn e) (hm : mayE e = true) : CntOk (n + 1) (some e) (wldCount W e) := by
  unfold wldCount
  split
  · exact ⟨catPut_ok h.cat ha ht, h.crd.more ha, h.dec, Nat.le_succ_of_le h.deca, h.pan, Nat.le_succ_of_le h.pana⟩
  · split
    · exact ⟨h.cat.more ha, h.crd.more ha, h.dec, Nat.le_succ_of_le h.deca, h.pan, Nat.le_succ_of_le h.pana⟩
    · exact worth_ok (h.cat.more ha) (crdAdd_ok h.crd) h.dec h.deca h.pan h.pana hm
end
end Go.Proofs.YtpkkkhgmkndpdaaGreatDoor
namespace Go.Proofs.YtpkkkhgmkndpdaaGreatDoor
open Go Go.RowKit Go.Proofs
attribute [local go_sem ↓] Go.wp_at_zero Go.wp_at_succ
theorem item_form (c : Cat) (e : Ev) : ∃ nm mk tg st pr bo li, itV (catAt c e.item e.tick) = .agg #[.string nm, .string mk, .string tg, .int .i64 st, .int .i64 pr, .int .i64 bo, .bool li] ∧ (∀ s, catAt c e.item e.tick = some s → tg = s.tags) := by
  cases h : catAt c e.item e.tick with
  | none => exact ⟨_, _, _, _, _, _, _, rfl, fun _ h => by cases h⟩
  | some s => exact ⟨_, _, _, _, _, _, _, rfl, fun s' h => by cases h; rfl⟩
theorem catAt_mem {c : Cat} {name : ByteArray} {x : Int} {s : St} (h : catAt c name x = some s) : s ∈ rowS c.things name := by
  unfold catAt at h
  split at h
  · cases h
  · exact List.mem_of_getElem? h
theorem thing_kind {e : Ev} : isThing e = true ↔ e.kind = 11 ∨ e.kind = 12 ∨ e.kind = 13 := by
  unfold isThing; simp [or_assoc]
theorem semi_size (s : ByteArray) : ((⟨#[59]⟩ : ByteArray) ++ s).size = 1 + s.size := by
  rw [ByteArray.size_append]; rfl
theorem kind_of_worth {e : Ev} (h : 0 < worthE e) : e.kind = 1 ∨ e.kind = 2 ∨ e.kind = 3 ∨ e.kind = 4 := by
  unfold worthE at h
  by_cases h1 : e.kind = 1; exact .inl h1
  by_cases h2 : e.kind = 2; exact .inr (.inl h2)
  by_cases h3 : e.kind = 3; exact .inr (.inr (.inl h3))
  by_cases h4 : e.kind = 4; exact .inr (.inr (.inr h4))
  rw [if_neg h1, if_neg h2, if_neg h3, if_neg h4] at h
  omega
theorem name_size {s : ByteArray} (h : nameB s = true) : 1 ≤ s.size ∧ s.size ≤ 24 := by
  unfold nameB at h
  simp only [Bool.and_eq_true, decide_eq_true_eq] at h
  exact h.1
theorem head_tick {e : Ev} (h : mayE e = true) : 0 ≤ e.tick ∧ e.tick ≤ 1099511627776 := by
  unfold mayE headE at h
  simp only [Bool.and_eq_true, decide_eq_true_eq] at h
  exact ⟨h.1.1.2, h.1.2⟩
theorem worth_names {e : Ev} (h : mayE e = true) (hw : 0 < worthE e) : nameB e.person = true ∧ nameB e.item = true := by
  have hk := kind_of_worth hw
  unfold mayE at h
  rw [Bool.and_eq_true] at h
  by_cases h4 : e.kind = 4
  · rw [tail_b h4] at h
    simp only [Bool.and_eq_true] at h
    exact h.2.1.1.1
  · rw [tail_a (by omega)] at h
    simp only [Bool.and_eq_true] at h
    exact h.2.1.1
theorem may_kind {e : Ev} (h : mayE e = true) : 0 ≤ e.kind ∧ e.kind ≤ 14 := by
  unfold mayE at h
  rw [Bool.and_eq_true] at h
  have h9 := h.2
  unfold tailE at h9
  refine ⟨?_, ?_⟩
  · by_cases h0 : e.kind < 0
    · rw [if_neg (by omega), if_neg (by omega), if_neg (by omega), if_neg (by omega), if_neg (by omega), if_neg (by omega), if_neg (by omega)] at h9; cases h9
    · omega
  · by_cases h0 : 14 < e.kind
    · rw [if_neg (by omega), if_neg (by omega), if_neg (by omega), if_neg (by omega), if_neg (by omega), if_neg (by omega), if_neg (by omega)] at h9; cases h9
    · omega
set_option maxRecDepth 100000 in
set_option maxHeartbeats 8000000 in
theorem wo_count (P : PrOb) (n : Nat) (L : Option Ev) (b : Nat) (fp : List Nat) (W : Wld P) (e : Ev) (w0 w : World) (h : WldAt P w b fp W) (hx : Ext w0 w) (hfr : ∀ g ∈ fp, w0.heap.size ≤ g) (hm : Mx w0) (ht : EvTn e) (hmay : mayE e = true) (hok : CntOk n L W) (haf : Aft L e) (hn : n < 1048576) :
    Calls Tryz.prog 49 #[.pointer (some ⟨b, 0, none⟩), .agg #[.string e.src, .int .i64 e.num, .int .i64 e.tick, .int .i64 e.kind, .string e.person, .string e.item, .int .i64 e.value, .string e.text]] w fun r w' => r = .returned (.tuple #[]) ∧ ∃ fp', WldAt P w' b fp' (wldCount W e) ∧ Turned fp fp' w w' := by
  have Hc := Lib.hid h
  have Hx := Lib.hid hx
  have Hfr := Lib.hid hfr
  have Hmx := Lib.hid hm
  have Ht := Lib.hid ht
  have Hmay := Lib.hid hmay
  have Hok := Lib.hid hok
  have Haf := Lib.hid haf
  have Hn := Lib.hid hn
  obtain ⟨hbfp, hbw⟩ := WldAt.root h
  have hfl := h.lt
  have Hfl := Lib.hid hfl
  obtain ⟨W0, hW0⟩ : ∃ X, X = w.alloc (.cells #[.string e.src, .int .i64 e.num, .int .i64 e.tick, .int .i64 e.kind, .string e.person, .string e.item, .int .i64 e.value, .string e.text] 30) := ⟨_, rfl⟩
  obtain ⟨g3, hg3⟩ : ∃ g, g = w.heap.size := ⟨_, rfl⟩
  have hgb0 : W0.heap[g3]? = some (.cells #[.string e.src, .int .i64 e.num, .int .i64 e.tick, .int .i64 e.kind, .string e.person, .string e.item, .int .i64 e.value, .string e.text] 30) := by rw [hW0, hg3]; exact blk_new _ _
  have Hx0 := Lib.hid (show Ext w W0 by rw [hW0]; exact (Keeps.refl _ _).alloc _)
  have Hg3 := Lib.hid hgb0
  have h3fp : g3 ∉ fp := fun hm => by have := hfl g3 hm; omega
  have H3fp := Lib.hid h3fp
  have hg3w : w.heap.size ≤ g3 := by omega
  obtain ⟨kd, hkd⟩ : ∃ k, k = e.kind := ⟨_, rfl⟩
  have c3 : W0.cell? ⟨g3, 3, none⟩ = some (.int .i64 kd) := by rw [hkd]; exact blk_cell hgb0 3 rfl
  have HkdE := Lib.hid hkd
  have hkk := may_kind hmay
  rw [← hkd] at hkk
  have hcls : (kd = 11 ∨ kd = 12 ∨ kd = 13) ∨ kd = 14 ∨ (0 ≤ kd ∧ kd ≤ 10) := by omega
  have hb0 : b < W0.heap.size := Nat.lt_of_lt_of_le hbw Hx0.out.size
  have h30 : g3 < W0.heap.size := (Array.getElem?_eq_some_iff.1 hgb0).1
  have HG := Lib.hid (fun (w' : World) (hk : Keeps (fun g => g = g3) W0 w') => show w'.cell? ⟨g3, 0, none⟩ = some (.string e.src) ∧ w'.cell? ⟨g3, 1, none⟩ = some (.int .i64 e.num) ∧ w'.cell? ⟨g3, 2, none⟩ = some (.int .i64 e.tick) ∧ w'.cell? ⟨g3, 3, none⟩ = some (.int .i64 e.kind) ∧ w'.cell? ⟨g3, 4, none⟩ = some (.string e.person) ∧ w'.cell? ⟨g3, 5, none⟩ = some (.string e.item) ∧ w'.cell? ⟨g3, 6, none⟩ = some (.int .i64 e.value) ∧ w'.cell? ⟨g3, 7, none⟩ = some (.string e.text) from ⟨blk_cell (hk.blk Hg3.out rfl) 0 rfl, blk_cell (hk.blk Hg3.out rfl) 1 rfl, blk_cell (hk.blk Hg3.out rfl) 2 rfl, blk_cell (hk.blk Hg3.out rfl) 3 rfl, blk_cell (hk.blk Hg3.out rfl) 4 rfl, blk_cell (hk.blk Hg3.out rfl) 5 rfl, blk_cell (hk.blk Hg3.out rfl) 6 rfl, blk_cell (hk.blk Hg3.out rfl) 7 rfl⟩)
  clear h hx hfr hm ht hmay hok haf hn hfl hgb0 hkd h3fp
  rcases hcls with hq | hq | hq
  · have hthing : isThing e = true := thing_kind.2 (by rw [← HkdE.out]; exact hq)
    have Hcnt := Lib.hid (show wldCount W e = { W with cat := catPut W.cat e } by unfold wldCount; rw [if_pos hthing])
    obtain ⟨m, f, qm, hcat, hsub, hbf, hback⟩ := wld_cat (Hc.out.ext (Hx0.out.drew))
    have HA := Lib.hid (cat_Apply m f W.cat e W0.drew hcat (Hmx.out.ext (Hx.out.trans Hx0.out.drew)) Ht.out.sm Hmay.out (by rw [← HkdE.out]; exact hq) (Hok.out.cat.last e Haf.out) (by have := Hok.out.cat.len e.item; have := Hn.out; omega))
    have Hback := Lib.hid hback
    have hm3 : g3 ∉ f := fun hm => H3fp.out (hsub _ hm)
    have HS := Lib.hid (fun (w' : World) (hk : Keeps (fun g => g = b ∨ g = g3) W0 w') => show w'.cell? ⟨b, 18, none⟩ = some (ptrV m) ∧ w'.cell? ⟨g3, 0, none⟩ = some (.string e.src) ∧ w'.cell? ⟨g3, 1, none⟩ = some (.int .i64 e.num) ∧ w'.cell? ⟨g3, 2, none⟩ = some (.int .i64 e.tick) ∧ w'.cell? ⟨g3, 3, none⟩ = some (.int .i64 e.kind) ∧ w'.cell? ⟨g3, 4, none⟩ = some (.string e.person) ∧ w'.cell? ⟨g3, 5, none⟩ = some (.string e.item) ∧ w'.cell? ⟨g3, 6, none⟩ = some (.int .i64 e.value) ∧ w'.cell? ⟨g3, 7, none⟩ = some (.string e.text) from ⟨(hk.cell (p := ⟨b, 18, none⟩) hb0 (.inl rfl)).trans qm, HG.out w' (hk.mono (fun g _ hg => .inr hg))⟩)
    have Hfree := Lib.hid (fun (g : Nat) (hg : g = b ∨ g = g3) => show g ∉ f by rcases hg with rfl | rfl; exact hbf; exact hm3)
    clear hcat hback hsub hbf hthing hm3 qm
    go_enter Tryz.func49, Tryz.ntmps49
    go_upto_region 1 with fail
    rw [← hW0, ← hg3]
    clear hW0 hg3
    rcases hq with rfl | rfl | rfl
    all_goals
      go_upto_region 5 with fail
      clear c3
      refine wp_region_held_drew (S := fun w' => w'.cell? ⟨b, 18, none⟩ = some (ptrV m) ∧ w'.cell? ⟨g3, 0, none⟩ = some (.string e.src) ∧ w'.cell? ⟨g3, 1, none⟩ = some (.int .i64 e.num) ∧ w'.cell? ⟨g3, 2, none⟩ = some (.int .i64 e.tick) ∧ w'.cell? ⟨g3, 3, none⟩ = some (.int .i64 e.kind) ∧ w'.cell? ⟨g3, 4, none⟩ = some (.string e.person) ∧ w'.cell? ⟨g3, 5, none⟩ = some (.string e.item) ∧ w'.cell? ⟨g3, 6, none⟩ = some (.int .i64 e.value) ∧ w'.cell? ⟨g3, 7, none⟩ = some (.string e.text)) (by kernel_rfl) (by exact HS.out W0.drew ((Keeps.refl _ _).drew)) (fun hHeld => ?_)
      change wpAnyH _ _ _ _ _ _ #[false, false, false, false, false, false] _ _
      refine wpAnyH_take (i := 0) (oi := { dst := some 14, op := Go.Op.move (Go.Operand.tmp 0), type := 39, pos := "world.go:117", after := #[], guard := none }) (v := ?_) rfl (by kernel_rfl) (by kernel_rfl) (by kernel_rfl) (fun _ _ _ h => h) (Or.inl ⟨by rfl, ?_⟩) hHeld ?_
      rotate_left
      · intro w hSw
        (try dsimp only at hSw)
        go_simp
        all_goals (with_reducible rfl)
      try simp only [Act.put, List.setIfInBounds_toArray, List.set_cons_zero, List.set_cons_succ]
      refine wpAnyH_take (i := 1) (oi := { dst := some 15, op := Go.Op.nilCheck (Go.Operand.tmp 14), type := 0, pos := "world.go:117", after := #[{ on := 0, ground := Go.Ground.data }], guard := none }) (v := ?_) rfl (by kernel_rfl) (by kernel_rfl) (by kernel_rfl) (fun _ _ _ h => h) (Or.inl ⟨by rfl, ?_⟩) hHeld ?_
      rotate_left
      · intro w hSw
        (try dsimp only at hSw)
        go_simp
        all_goals (with_reducible rfl)
      try simp only [Act.put, List.setIfInBounds_toArray, List.set_cons_zero, List.set_cons_succ]
      refine wpAnyH_take (i := 2) (oi := { dst := some 16, op := Go.Op.fieldAddr 61 (Go.Operand.tmp 15) 6, type := 0, pos := "world.go:117", after := #[{ on := 1, ground := Go.Ground.data }], guard := none }) (v := ?_) rfl (by kernel_rfl) (by kernel_rfl) (by kernel_rfl) (fun _ _ _ h => h) (Or.inl ⟨by rfl, ?_⟩) hHeld ?_
      rotate_left
      · intro w hSw
        (try dsimp only at hSw)
        go_simp
        all_goals (with_reducible rfl)
      try simp only [Act.put, List.setIfInBounds_toArray, List.set_cons_zero, List.set_cons_succ]
      refine wpAnyH_take (i := 3) (oi := { dst := some 17, op := Go.Op.load 54 (Go.Operand.tmp 16), type := 54, pos := "world.go:117", after := #[{ on := 2, ground := Go.Ground.data }], guard := none }) (v := ?_) rfl (by kernel_rfl) (by kernel_rfl) (by kernel_rfl) (fun _ _ _ h => h) (Or.inl ⟨by rfl, ?_⟩) hHeld ?_
      rotate_left
      · intro w hSw
        (try dsimp only at hSw)
        go_simp
        all_goals (with_reducible rfl)
      try simp only [Act.put, List.setIfInBounds_toArray, List.set_cons_zero, List.set_cons_succ]
      refine wpAnyH_take (i := 4) (oi := { dst := some 18, op := Go.Op.load 30 (Go.Operand.tmp 3), type := 30, pos := "world.go:117", after := #[], guard := none }) (v := ?_) rfl (by kernel_rfl) (by kernel_rfl) (by kernel_rfl) (fun _ _ _ h => h) (Or.inl ⟨by rfl, ?_⟩) hHeld ?_
      rotate_left
      · intro w hSw
        (try dsimp only at hSw)
        go_simp
        all_goals (with_reducible rfl)
      try simp only [Act.put, List.setIfInBounds_toArray, List.set_cons_zero, List.set_cons_succ]
      refine wpAnyH_ready (rs := [5]) (by kernel_rfl) (by simp) ?_
      refine (AllReadyH.cons (o := { dst := some 19, op := Go.Op.call { callee := Go.Callee.value (Go.Operand.func 78), args := #[Go.Operand.tmp 17, Go.Operand.tmp 18], argTypes := #[54, 30] }, type := 4, pos := "world.go:117", after := #[{ on := 3, ground := Go.Ground.data }, { on := 4, ground := Go.Ground.data }], guard := none }) rfl (fun K hK => ?_) AllReadyH.nil)
      (go_simp; go_at_call 78; refine HA.out.mono ?_; rintro _ w5 ⟨rfl, f5, hc5, ht5⟩; have hk5 : Keeps (fun g => g = b ∨ g = g3) W0 w5 := Keeps.then_ ((Keeps.refl _ W0).drew) ht5.keeps (fun g _ hg => Hfree.out g hg))
      refine hK.out _ _ (by exact HS.out _ (by repeat (first | with_reducible exact Keeps.refl _ _ | with_reducible assumption | with_reducible refine Keeps.drew ?_ | with_reducible refine Keeps.alloc ?_ _))) (fun hHeld => ?_)
      clear hK K
      try simp only [List.setIfInBounds_toArray, List.set_cons_zero, List.set_cons_succ]
      refine wpAnyH_done (by kernel_rfl) ?_ _
      obtain ⟨fp5, hc6, ht6⟩ := Hback.out w5 f5 _ hc5 ht5
      have Hc6 := Lib.hid hc6
      have Ht6 := Lib.hid ht6
      clear hHeld hc5 ht5 hk5 hc6 ht6
      go_wp2_with fail
      exact ⟨rfl, .tuple #[], by simp [results, Tryz.results49], rfl, fp5, by rw [Hcnt.out]; exact Hc6.out, (Turned.of_ext Hx0.out.drew).trans Ht6.out⟩
  · subst hq
    have Hcnt := Lib.hid (show wldCount W e = W by unfold wldCount; rw [if_neg (by rw [thing_kind, ← HkdE.out]; omega), if_pos HkdE.out.symm])
    go_enter Tryz.func49, Tryz.ntmps49
    go_upto_region 1 with fail
    rw [← hW0, ← hg3]
    clear hW0 hg3
    go_wp2_with fail
    exact ⟨rfl, .tuple #[], by simp [results, Tryz.results49], rfl, fp, by rw [Hcnt.out]; exact Hc.out.ext Hx0.out, Turned.of_ext Hx0.out⟩
  · obtain ⟨hk0, hk1⟩ := hq
    have Hke := Lib.hid (show 0 ≤ e.kind ∧ e.kind ≤ 10 by rw [← HkdE.out]; exact ⟨hk0, hk1⟩)
    have hthing : isThing e = false := by rw [Bool.eq_false_iff]; intro h9; have := thing_kind.1 h9; have := Hke.out; omega
    have Hcnt := Lib.hid (show wldCount W e = wldWorth { W with crd := crdAdd W.crd e (tagsW W.cat e) } e by unfold wldCount; rw [if_neg (by rw [hthing]; decide), if_neg (by have := Hke.out; omega)])
    obtain ⟨m, f, qm, hcat, _, hbf, _⟩ := wld_cat (Hc.out.ext Hx0.out)
    obtain ⟨nm, mk, tg, st, pr, bo, li, hit, htg⟩ := item_form W.cat e
    obtain ⟨bk, hbk⟩ : ∃ bk, bk = (catAt W.cat e.item e.tick).isSome := ⟨_, rfl⟩
    have HAt := Lib.hid (fun (X : World) (hx : Ext W0 X) => show Calls Tryz.prog 79 #[.pointer (some ⟨m, 0, none⟩), .string e.item, .int .i64 e.tick] X (fun r w' => r = .returned (.tuple #[.agg #[.string nm, .string mk, .string tg, .int .i64 st, .int .i64 pr, .int .i64 bo, .bool li], .bool bk]) ∧ Ext X w') by
      have h9 := cat_At m f W.cat e.item e.tick X (hcat.ext hx) (Hok.out.cat.ris _) (by have := Hok.out.cat.len e.item; have := Hn.out; omega)
      rw [hit, ← hbk] at h9; exact h9)
    have Htg := Lib.hid htg
    have Hbk := Lib.hid hbk
    have HS := Lib.hid (fun (w' : World) (hk : Keeps (fun g => g = b ∨ g = g3) W0 w') => show w'.cell? ⟨b, 18, none⟩ = some (.pointer (some ⟨m, 0, none⟩)) ∧ w'.cell? ⟨g3, 0, none⟩ = some (.string e.src) ∧ w'.cell? ⟨g3, 1, none⟩ = some (.int .i64 e.num) ∧ w'.cell? ⟨g3, 2, none⟩ = some (.int .i64 e.tick) ∧ w'.cell? ⟨g3, 3, none⟩ = some (.int .i64 e.kind) ∧ w'.cell? ⟨g3, 4, none⟩ = some (.string e.person) ∧ w'.cell? ⟨g3, 5, none⟩ = some (.string e.item) ∧ w'.cell? ⟨g3, 6, none⟩ = some (.int .i64 e.value) ∧ w'.cell? ⟨g3, 7, none⟩ = some (.string e.text) from ⟨(hk.cell (p := ⟨b, 18, none⟩) hb0 (.inl rfl)).trans qm, HG.out w' (hk.mono (fun g _ hg => .inr hg))⟩)
    have d11 : decide (kd = 11) = false := by simp; omega
    have d12 : decide (kd = 12) = false := by simp; omega
    have d13 : decide (kd = 13) = false := by simp; omega
    have d14 : decide (kd = 14) = false := by simp; omega
    clear hcat hbf hthing qm hit htg hbk
    go_enter Tryz.func49, Tryz.ntmps49
    go_upto_region 1 with fail
    rw [← hW0, ← hg3]
    clear hW0 hg3
    go_upto_region 8 with fail
    clear d11 d12 d13 d14 c3
    go_cut [5, 6, 10, 20] (fun s5 s6 _ _ wx => ∃ g5, s5 = .pointer (some ⟨g5, 0, none⟩) ∧ s6 = .bool bk ∧ wx.heap[g5]? = some (.cells #[.string nm, .string mk, .string tg, .int .i64 st, .int .i64 pr, .int .i64 bo, .bool li] 117) ∧ W0.heap.size ≤ g5 ∧ Ext W0 wx)
    case first =>
      refine wp_region_held_drew (S := fun w' => w'.cell? ⟨b, 18, none⟩ = some (.pointer (some ⟨m, 0, none⟩)) ∧ w'.cell? ⟨g3, 0, none⟩ = some (.string e.src) ∧ w'.cell? ⟨g3, 1, none⟩ = some (.int .i64 e.num) ∧ w'.cell? ⟨g3, 2, none⟩ = some (.int .i64 e.tick) ∧ w'.cell? ⟨g3, 3, none⟩ = some (.int .i64 e.kind) ∧ w'.cell? ⟨g3, 4, none⟩ = some (.string e.person) ∧ w'.cell? ⟨g3, 5, none⟩ = some (.string e.item) ∧ w'.cell? ⟨g3, 6, none⟩ = some (.int .i64 e.value) ∧ w'.cell? ⟨g3, 7, none⟩ = some (.string e.text)) (by kernel_rfl) (by exact HS.out W0.drew ((Keeps.refl _ _).drew)) (fun hHeld => ?_)
      change wpAnyH _ _ _ _ _ _ #[false, false, false, false, false, false, false, false, false, false, false, false, false, false, false] _ _
      refine wpAnyH_take (i := 0) (oi := { dst := some 23, op := Go.Op.move (Go.Operand.tmp 0), type := 39, pos := "world.go:123", after := #[], guard := none }) (v := ?_) rfl (by kernel_rfl) (by kernel_rfl) (by kernel_rfl) (fun _ _ _ h => h) (Or.inl ⟨by rfl, ?_⟩) hHeld ?_
      rotate_left
      · intro w hSw
        (try dsimp only at hSw)
        go_simp
        all_goals (with_reducible rfl)
      try simp only [Act.put, List.setIfInBounds_toArray, List.set_cons_zero, List.set_cons_succ]
      refine wpAnyH_take (i := 1) (oi := { dst := some 24, op := Go.Op.nilCheck (Go.Operand.tmp 23), type := 0, pos := "world.go:123", after := #[{ on := 0, ground := Go.Ground.data }], guard := none }) (v := ?_) rfl (by kernel_rfl) (by kernel_rfl) (by kernel_rfl) (fun _ _ _ h => h) (Or.inl ⟨by rfl, ?_⟩) hHeld ?_
      rotate_left
      · intro w hSw
        (try dsimp only at hSw)
        go_simp
        all_goals (with_reducible rfl)
      try simp only [Act.put, List.setIfInBounds_toArray, List.set_cons_zero, List.set_cons_succ]
      refine wpAnyH_take (i := 2) (oi := { dst := some 25, op := Go.Op.fieldAddr 61 (Go.Operand.tmp 24) 6, type := 0, pos := "world.go:123", after := #[{ on := 1, ground := Go.Ground.data }], guard := none }) (v := ?_) rfl (by kernel_rfl) (by kernel_rfl) (by kernel_rfl) (fun _ _ _ h => h) (Or.inl ⟨by rfl, ?_⟩) hHeld ?_
      rotate_left
      · intro w hSw
        (try dsimp only at hSw)
        go_simp
        all_goals (with_reducible rfl)
      try simp only [Act.put, List.setIfInBounds_toArray, List.set_cons_zero, List.set_cons_succ]
      refine wpAnyH_take (i := 3) (oi := { dst := some 26, op := Go.Op.load 54 (Go.Operand.tmp 25), type := 54, pos := "world.go:123", after := #[{ on := 2, ground := Go.Ground.data }], guard := none }) (v := ?_) rfl (by kernel_rfl) (by kernel_rfl) (by kernel_rfl) (fun _ _ _ h => h) (Or.inl ⟨by rfl, ?_⟩) hHeld ?_
      rotate_left
      · intro w hSw
        (try dsimp only at hSw)
        go_simp
        all_goals (with_reducible rfl)
      try simp only [Act.put, List.setIfInBounds_toArray, List.set_cons_zero, List.set_cons_succ]
      refine wpAnyH_take (i := 4) (oi := { dst := some 27, op := Go.Op.fieldAddr 30 (Go.Operand.tmp 3) 5, type := 0, pos := "world.go:123", after := #[], guard := none }) (v := ?_) rfl (by kernel_rfl) (by kernel_rfl) (by kernel_rfl) (fun _ _ _ h => h) (Or.inl ⟨by rfl, ?_⟩) hHeld ?_
      rotate_left
      · intro w hSw
        (try dsimp only at hSw)
        go_simp
        all_goals (with_reducible rfl)
      try simp only [Act.put, List.setIfInBounds_toArray, List.set_cons_zero, List.set_cons_succ]
      refine wpAnyH_take (i := 5) (oi := { dst := some 28, op := Go.Op.load 9 (Go.Operand.tmp 27), type := 9, pos := "world.go:123", after := #[{ on := 4, ground := Go.Ground.data }], guard := none }) (v := ?_) rfl (by kernel_rfl) (by kernel_rfl) (by kernel_rfl) (fun _ _ _ h => h) (Or.inl ⟨by rfl, ?_⟩) hHeld ?_
      rotate_left
      · intro w hSw
        (try dsimp only at hSw)
        go_simp
        all_goals (with_reducible rfl)
      try simp only [Act.put, List.setIfInBounds_toArray, List.set_cons_zero, List.set_cons_succ]
      refine wpAnyH_take (i := 6) (oi := { dst := some 29, op := Go.Op.fieldAddr 30 (Go.Operand.tmp 3) 2, type := 0, pos := "world.go:123", after := #[], guard := none }) (v := ?_) rfl (by kernel_rfl) (by kernel_rfl) (by kernel_rfl) (fun _ _ _ h => h) (Or.inl ⟨by rfl, ?_⟩) hHeld ?_
      rotate_left
      · intro w hSw
        (try dsimp only at hSw)
        go_simp
        all_goals (with_reducible rfl)
      try simp only [Act.put, List.setIfInBounds_toArray, List.set_cons_zero, List.set_cons_succ]
      refine wpAnyH_take (i := 7) (oi := { dst := some 30, op := Go.Op.load 3 (Go.Operand.tmp 29), type := 3, pos := "world.go:123", after := #[{ on := 6, ground := Go.Ground.data }], guard := none }) (v := ?_) rfl (by kernel_rfl) (by kernel_rfl) (by kernel_rfl) (fun _ _ _ h => h) (Or.inl ⟨by rfl, ?_⟩) hHeld ?_
      rotate_left
      · intro w hSw
        (try dsimp only at hSw)
        go_simp
        all_goals (with_reducible rfl)
      try simp only [Act.put, List.setIfInBounds_toArray, List.set_cons_zero, List.set_cons_succ]
      refine wpAnyH_ready (rs := [8, 12]) (by kernel_rfl) (by simp) ?_
      refine (AllReadyH.cons (o := { dst := some 31, op := Go.Op.call { callee := Go.Callee.value (Go.Operand.func 79), args := #[Go.Operand.tmp 26, Go.Operand.tmp 28, Go.Operand.tmp 30], argTypes := #[54, 9, 3] }, type := 118, pos := "world.go:123", after := #[{ on := 3, ground := Go.Ground.data }, { on := 5, ground := Go.Ground.data }, { on := 7, ground := Go.Ground.data }], guard := none }) rfl (fun K hK => ?_) (AllReadyH.cons (o := { dst := some 5, op := Go.Op.alloc 117, type := 0, pos := "world.go:123", after := #[], guard := none }) rfl (fun K hK => ?_) AllReadyH.nil))
      · (go_simp; go_at_call 79; refine (HAt.out _ (by repeat (first | with_reducible exact Keeps.refl _ _ | with_reducible assumption | with_reducible refine Keeps.drew ?_ | with_reducible refine Keeps.alloc ?_ _))).mono ?_; rintro _ w5 ⟨rfl, hx5⟩; have hxw : Ext W0 w5 := Keeps.trans (by repeat (first | with_reducible exact Keeps.refl _ _ | with_reducible assumption | with_reducible refine Keeps.drew ?_ | with_reducible refine Keeps.alloc ?_ _)) hx5; have hk5 : Keeps (fun g => g = b ∨ g = g3) W0 w5 := Ext.keeps hxw _; have hsz5 := hxw.size)
        refine hK.out _ _ (by exact HS.out _ (by repeat (first | with_reducible exact hk5 | with_reducible exact Keeps.refl _ _ | with_reducible refine Keeps.drew ?_ | with_reducible refine Keeps.drewN ?_ _ | with_reducible refine Keeps.alloc ?_ _ | with_reducible refine Keeps.setCell ?_ (by first | (intro h; simp at h; done) | (intro _; simp; done) | (intro _; simp; omega) | (intro h; simp at h; omega)) _))) (fun hHeld => ?_)
        clear hK K
        try simp only [List.setIfInBounds_toArray, List.set_cons_zero, List.set_cons_succ]
        refine wpAnyH_take (i := 9) (oi := { dst := some 22, op := Go.Op.move (Go.Operand.tmp 31), type := 118, pos := "world.go:123", after := #[{ on := 8, ground := Go.Ground.data }], guard := none }) (v := ?_) rfl (by kernel_rfl) (by kernel_rfl) (by kernel_rfl) (fun _ _ _ h => h) (Or.inl ⟨by rfl, ?_⟩) hHeld ?_
        rotate_left
        · intro w hSw
          (try dsimp only at hSw)
          go_simp
          all_goals (with_reducible rfl)
        try simp only [Act.put, List.setIfInBounds_toArray, List.set_cons_zero, List.set_cons_succ]
        refine wpAnyH_take (i := 10) (oi := { dst := some 32, op := Go.Op.extract (Go.Operand.tmp 22) 0, type := 117, pos := "world.go:123", after := #[{ on := 9, ground := Go.Ground.data }], guard := none }) (v := ?_) rfl (by kernel_rfl) (by kernel_rfl) (by kernel_rfl) (fun _ _ _ h => h) (Or.inl ⟨by rfl, ?_⟩) hHeld ?_
        rotate_left
        · intro w hSw
          (try dsimp only at hSw)
          go_simp
          all_goals (with_reducible rfl)
        try simp only [Act.put, List.setIfInBounds_toArray, List.set_cons_zero, List.set_cons_succ]
        refine wpAnyH_take (i := 11) (oi := { dst := some 33, op := Go.Op.extract (Go.Operand.tmp 22) 1, type := 4, pos := "world.go:123", after := #[{ on := 9, ground := Go.Ground.data }, { on := 13, ground := Go.Ground.gcOnly Go.Departure.lateStores }], guard := none }) (v := ?_) rfl (by kernel_rfl) (by kernel_rfl) (by kernel_rfl) (fun _ _ _ h => h) (Or.inl ⟨by rfl, ?_⟩) hHeld ?_
        rotate_left
        · intro w hSw
          (try dsimp only at hSw)
          go_simp
          all_goals (with_reducible rfl)
        try simp only [Act.put, List.setIfInBounds_toArray, List.set_cons_zero, List.set_cons_succ]
        refine wpAnyH_ready (rs := [12]) (by kernel_rfl) (by simp) ?_
        refine (AllReadyH.cons (o := { dst := some 5, op := Go.Op.alloc 117, type := 0, pos := "world.go:123", after := #[], guard := none }) rfl (fun K hK => ?_) AllReadyH.nil)
        go_simp
        refine hK.out _ _ (by exact HS.out _ (by repeat (first | with_reducible exact hk5 | with_reducible exact Keeps.refl _ _ | with_reducible refine Keeps.drew ?_ | with_reducible refine Keeps.drewN ?_ _ | with_reducible refine Keeps.alloc ?_ _ | with_reducible refine Keeps.setCell ?_ (by first | (intro h; simp at h; done) | (intro _; simp; done) | (intro _; simp; omega) | (intro h; simp at h; omega)) _))) (fun hHeld => ?_)
        clear hK K
        try simp only [List.setIfInBounds_toArray, List.set_cons_zero, List.set_cons_succ]
        refine wpAnyH_ready (rs := [13]) (by kernel_rfl) (by simp) ?_
        refine (AllReadyH.cons (o := { dst := none, op := Go.Op.store 117 (Go.Operand.tmp 5) (Go.Operand.tmp 32), type := 0, pos := "world.go:123", after := #[{ on := 12, ground := Go.Ground.data }, { on := 10, ground := Go.Ground.data }, { on := 8, ground := Go.Ground.chain }, { on := 0, ground := Go.Ground.phase }, { on := 1, ground := Go.Ground.phase }, { on := 2, ground := Go.Ground.phase }, { on := 3, ground := Go.Ground.phase }, { on := 4, ground := Go.Ground.phase }, { on := 5, ground := Go.Ground.phase }, { on := 6, ground := Go.Ground.phase }, { on := 7, ground := Go.Ground.phase }, { on := 8, ground := Go.Ground.phase }, { on := 9, ground := Go.Ground.phase }, { on := 10, ground := Go.Ground.phase }, { on := 11, ground := Go.Ground.textOnly Go.Departure.lateStores }, { on := 12, ground := Go.Ground.phase }], guard := none }) rfl (fun K hK => ?_) AllReadyH.nil)
        go_simp
        refine hK.out _ _ (by exact HS.out _ (by repeat (first | with_reducible exact hk5 | with_reducible exact Keeps.refl _ _ | with_reducible refine Keeps.drew ?_ | with_reducible refine Keeps.drewN ?_ _ | with_reducible refine Keeps.alloc ?_ _ | with_reducible refine Keeps.setCell ?_ (by first | (intro h; simp at h; done) | (intro _; simp; done) | (intro _; simp; omega) | (intro h; simp at h; omega)) _))) (fun hHeld => ?_)
        clear hK K
        try simp only [List.setIfInBounds_toArray, List.set_cons_zero, List.set_cons_succ]
        refine wpAnyH_ready (rs := [14]) (by kernel_rfl) (by simp) ?_
        refine (AllReadyH.cons (o := { dst := some 6, op := Go.Op.assign (Go.Operand.tmp 33), type := 4, pos := "world.go:123", after := #[{ on := 11, ground := Go.Ground.data }, { on := 13, ground := Go.Ground.chain }, { on := 0, ground := Go.Ground.phase }, { on := 1, ground := Go.Ground.phase }, { on := 2, ground := Go.Ground.phase }, { on := 3, ground := Go.Ground.phase }, { on := 4, ground := Go.Ground.phase }, { on := 5, ground := Go.Ground.phase }, { on := 6, ground := Go.Ground.phase }, { on := 7, ground := Go.Ground.phase }, { on := 8, ground := Go.Ground.phase }, { on := 9, ground := Go.Ground.phase }, { on := 10, ground := Go.Ground.phase }, { on := 11, ground := Go.Ground.phase }, { on := 12, ground := Go.Ground.phase }, { on := 13, ground := Go.Ground.phase }], guard := none }) rfl (fun K hK => ?_) AllReadyH.nil)
        go_simp
        refine hK.out _ _ (by exact HS.out _ (by repeat (first | with_reducible exact hk5 | with_reducible exact Keeps.refl _ _ | with_reducible refine Keeps.drew ?_ | with_reducible refine Keeps.drewN ?_ _ | with_reducible refine Keeps.alloc ?_ _ | with_reducible refine Keeps.setCell ?_ (by first | (intro h; simp at h; done) | (intro _; simp; done) | (intro _; simp; omega) | (intro h; simp at h; omega)) _))) (fun hHeld => ?_)
        clear hK K
        try simp only [List.setIfInBounds_toArray, List.set_cons_zero, List.set_cons_succ]
        refine wpAnyH_done (by kernel_rfl) ?_ _
        go_wp2_with fail
        go_meet
        refine ⟨_, rfl, rfl, ?_, ?_, ?_⟩
        · first | with_reducible exact blk_new _ _ | (have h9 := (blk_set (blk_set (blk_set (blk_set (blk_set (blk_set (blk_set hz5 0 (.string nm)) 1 (.string mk)) 2 (.string tg)) 3 (.int .i64 st)) 4 (.int .i64 pr)) 5 (.int .i64 bo)) 6 (.bool li)); simp only [List.setIfInBounds_toArray, List.set_cons_zero, List.set_cons_succ] at h9; exact h9)
        · first | exact Nat.le_refl _ | exact hsz5
        · repeat (first | with_reducible exact hxw | with_reducible exact Keeps.refl _ _ | with_reducible refine Keeps.drew ?_ | with_reducible refine Keeps.drewN ?_ _ | with_reducible refine Keeps.alloc ?_ _ | with_reducible refine Keeps.setCell ?_ (by first | (intro h; simp at h; done) | (intro _; simp; done) | (intro _; simp; omega) | (intro h; simp at h; omega)) _)
      · go_simp
        refine hK.out _ _ (by exact HS.out _ (by repeat (first | with_reducible exact hk5 | with_reducible exact Keeps.refl _ _ | with_reducible refine Keeps.drew ?_ | with_reducible refine Keeps.drewN ?_ _ | with_reducible refine Keeps.alloc ?_ _ | with_reducible refine Keeps.setCell ?_ (by first | (intro h; simp at h; done) | (intro _; simp; done) | (intro _; simp; omega) | (intro h; simp at h; omega)) _))) (fun hHeld => ?_)
        clear hK K
        try simp only [List.setIfInBounds_toArray, List.set_cons_zero, List.set_cons_succ]
        refine wpAnyH_ready (rs := [8]) (by kernel_rfl) (by simp) ?_
        refine (AllReadyH.cons (o := { dst := some 31, op := Go.Op.call { callee := Go.Callee.value (Go.Operand.func 79), args := #[Go.Operand.tmp 26, Go.Operand.tmp 28, Go.Operand.tmp 30], argTypes := #[54, 9, 3] }, type := 118, pos := "world.go:123", after := #[{ on := 3, ground := Go.Ground.data }, { on := 5, ground := Go.Ground.data }, { on := 7, ground := Go.Ground.data }], guard := none }) rfl (fun K hK => ?_) AllReadyH.nil)
        (go_simp; go_at_call 79; refine (HAt.out _ (by repeat (first | with_reducible exact Keeps.refl _ _ | with_reducible assumption | with_reducible refine Keeps.drew ?_ | with_reducible refine Keeps.alloc ?_ _))).mono ?_; rintro _ w5 ⟨rfl, hx5⟩; have hxw : Ext W0 w5 := Keeps.trans (by repeat (first | with_reducible exact Keeps.refl _ _ | with_reducible assumption | with_reducible refine Keeps.drew ?_ | with_reducible refine Keeps.alloc ?_ _)) hx5; have hk5 : Keeps (fun g => g = b ∨ g = g3) W0 w5 := Ext.keeps hxw _; have hsz5 := hxw.size)
        refine hK.out _ _ (by exact HS.out _ (by repeat (first | with_reducible exact hk5 | with_reducible exact Keeps.refl _ _ | with_reducible refine Keeps.drew ?_ | with_reducible refine Keeps.drewN ?_ _ | with_reducible refine Keeps.alloc ?_ _ | with_reducible refine Keeps.setCell ?_ (by first | (intro h; simp at h; done) | (intro _; simp; done) | (intro _; simp; omega) | (intro h; simp at h; omega)) _))) (fun hHeld => ?_)
        clear hK K
        try simp only [List.setIfInBounds_toArray, List.set_cons_zero, List.set_cons_succ]
        have hz5 := hx5.blk (blk_new _ _)
        have gfree := blk_free hz5
        have hg5l := (Array.getElem?_eq_some_iff.1 hz5).1
        have e0 := blk_cell hz5 0 rfl
        have e1 := blk_cell hz5 1 rfl
        have e2 := blk_cell hz5 2 rfl
        have e3 := blk_cell hz5 3 rfl
        have e4 := blk_cell hz5 4 rfl
        have e5 := blk_cell hz5 5 rfl
        have e6 := blk_cell hz5 6 rfl
        refine wpAnyH_take (i := 9) (oi := { dst := some 22, op := Go.Op.move (Go.Operand.tmp 31), type := 118, pos := "world.go:123", after := #[{ on := 8, ground := Go.Ground.data }], guard := none }) (v := ?_) rfl (by kernel_rfl) (by kernel_rfl) (by kernel_rfl) (fun _ _ _ h => h) (Or.inl ⟨by rfl, ?_⟩) hHeld ?_
        rotate_left
        · intro w hSw
          (try dsimp only at hSw)
          go_simp
          all_goals (with_reducible rfl)
        try simp only [Act.put, List.setIfInBounds_toArray, List.set_cons_zero, List.set_cons_succ]
        refine wpAnyH_take (i := 10) (oi := { dst := some 32, op := Go.Op.extract (Go.Operand.tmp 22) 0, type := 117, pos := "world.go:123", after := #[{ on := 9, ground := Go.Ground.data }], guard := none }) (v := ?_) rfl (by kernel_rfl) (by kernel_rfl) (by kernel_rfl) (fun _ _ _ h => h) (Or.inl ⟨by rfl, ?_⟩) hHeld ?_
        rotate_left
        · intro w hSw
          (try dsimp only at hSw)
          go_simp
          all_goals (with_reducible rfl)
        try simp only [Act.put, List.setIfInBounds_toArray, List.set_cons_zero, List.set_cons_succ]
        refine wpAnyH_take (i := 11) (oi := { dst := some 33, op := Go.Op.extract (Go.Operand.tmp 22) 1, type := 4, pos := "world.go:123", after := #[{ on := 9, ground := Go.Ground.data }, { on := 13, ground := Go.Ground.gcOnly Go.Departure.lateStores }], guard := none }) (v := ?_) rfl (by kernel_rfl) (by kernel_rfl) (by kernel_rfl) (fun _ _ _ h => h) (Or.inl ⟨by rfl, ?_⟩) hHeld ?_
        rotate_left
        · intro w hSw
          (try dsimp only at hSw)
          go_simp
          all_goals (with_reducible rfl)
        try simp only [Act.put, List.setIfInBounds_toArray, List.set_cons_zero, List.set_cons_succ]
        refine wpAnyH_ready (rs := [13]) (by kernel_rfl) (by simp) ?_
        refine (AllReadyH.cons (o := { dst := none, op := Go.Op.store 117 (Go.Operand.tmp 5) (Go.Operand.tmp 32), type := 0, pos := "world.go:123", after := #[{ on := 12, ground := Go.Ground.data }, { on := 10, ground := Go.Ground.data }, { on := 8, ground := Go.Ground.chain }, { on := 0, ground := Go.Ground.phase }, { on := 1, ground := Go.Ground.phase }, { on := 2, ground := Go.Ground.phase }, { on := 3, ground := Go.Ground.phase }, { on := 4, ground := Go.Ground.phase }, { on := 5, ground := Go.Ground.phase }, { on := 6, ground := Go.Ground.phase }, { on := 7, ground := Go.Ground.phase }, { on := 8, ground := Go.Ground.phase }, { on := 9, ground := Go.Ground.phase }, { on := 10, ground := Go.Ground.phase }, { on := 11, ground := Go.Ground.textOnly Go.Departure.lateStores }, { on := 12, ground := Go.Ground.phase }], guard := none }) rfl (fun K hK => ?_) AllReadyH.nil)
        go_simp
        refine hK.out _ _ (by exact HS.out _ (by repeat (first | with_reducible exact hk5 | with_reducible exact Keeps.refl _ _ | with_reducible refine Keeps.drew ?_ | with_reducible refine Keeps.drewN ?_ _ | with_reducible refine Keeps.alloc ?_ _ | with_reducible refine Keeps.setCell ?_ (by first | (intro h; simp at h; done) | (intro _; simp; done) | (intro _; simp; omega) | (intro h; simp at h; omega)) _))) (fun hHeld => ?_)
        clear hK K
        try simp only [List.setIfInBounds_toArray, List.set_cons_zero, List.set_cons_succ]
        refine wpAnyH_ready (rs := [14]) (by kernel_rfl) (by simp) ?_
        refine (AllReadyH.cons (o := { dst := some 6, op := Go.Op.assign (Go.Operand.tmp 33), type := 4, pos := "world.go:123", after := #[{ on := 11, ground := Go.Ground.data }, { on := 13, ground := Go.Ground.chain }, { on := 0, ground := Go.Ground.phase }, { on := 1, ground := Go.Ground.phase }, { on := 2, ground := Go.Ground.phase }, { on := 3, ground := Go.Ground.phase }, { on := 4, ground := Go.Ground.phase }, { on := 5, ground := Go.Ground.phase }, { on := 6, ground := Go.Ground.phase }, { on := 7, ground := Go.Ground.phase }, { on := 8, ground := Go.Ground.phase }, { on := 9, ground := Go.Ground.phase }, { on := 10, ground := Go.Ground.phase }, { on := 11, ground := Go.Ground.phase }, { on := 12, ground := Go.Ground.phase }, { on := 13, ground := Go.Ground.phase }], guard := none }) rfl (fun K hK => ?_) AllReadyH.nil)
        go_simp
        refine hK.out _ _ (by exact HS.out _ (by repeat (first | with_reducible exact hk5 | with_reducible exact Keeps.refl _ _ | with_reducible refine Keeps.drew ?_ | with_reducible refine Keeps.drewN ?_ _ | with_reducible refine Keeps.alloc ?_ _ | with_reducible refine Keeps.setCell ?_ (by first | (intro h; simp at h; done) | (intro _; simp; done) | (intro _; simp; omega) | (intro h; simp at h; omega)) _))) (fun hHeld => ?_)
        clear hK K
        try simp only [List.setIfInBounds_toArray, List.set_cons_zero, List.set_cons_succ]
        refine wpAnyH_done (by kernel_rfl) ?_ _
        go_wp2_with fail
        go_meet
        refine ⟨_, rfl, rfl, ?_, ?_, ?_⟩
        · first | with_reducible exact blk_new _ _ | (have h9 := (blk_set (blk_set (blk_set (blk_set (blk_set (blk_set (blk_set hz5 0 (.string nm)) 1 (.string mk)) 2 (.string tg)) 3 (.int .i64 st)) 4 (.int .i64 pr)) 5 (.int .i64 bo)) 6 (.bool li)); simp only [List.setIfInBounds_toArray, List.set_cons_zero, List.set_cons_succ] at h9; exact h9)
        · first | exact Nat.le_refl _ | exact hsz5
        · repeat (first | with_reducible exact hxw | with_reducible exact Keeps.refl _ _ | with_reducible refine Keeps.drew ?_ | with_reducible refine Keeps.drewN ?_ _ | with_reducible refine Keeps.alloc ?_ _ | with_reducible refine Keeps.setCell ?_ (by first | (intro h; simp at h; done) | (intro _; simp; done) | (intro _; simp; omega) | (intro h; simp at h; omega)) _)
    case rest =>
      obtain ⟨g5, hs5, hs6, h5, hg5, hxV⟩ := hcut
      subst hs5 hs6
      obtain ⟨V, hV⟩ : ∃ V, V = wc := ⟨_, rfl⟩
      rw [← hV] at h5 hxV ⊢
      have HxV := Lib.hid hxV
      have H5V := Lib.hid h5
      clear hV hxV h5
      go_upto_if 34 with fail
      go_cut [4] (fun s4 wx => ∃ A n ct, s4 = .slice A n ct ∧ Sl strR (fun g => W0.heap.size ≤ g) wx A n (tagsW W.cat e) ∧ Ext V wx)
      case first =>
        cases hat : catAt W.cat e.item e.tick with
        | none =>
          have hb9 := Hbk.out
          rw [hat] at hb9
          obtain rfl : bk = false := hb9
          have Htw := Lib.hid (show tagsW W.cat e = [] by unfold tagsW; rw [hat])
          clear hat
          go_wp2_with fail
          go_meet
          exact ⟨none, 0, 0, rfl, by rw [Htw.out]; exact Sl.nil_, Keeps.refl _ _⟩
        | some s =>
          have hb9 := Hbk.out
          rw [hat] at hb9
          obtain rfl : bk = true := hb9
          have Htw := Lib.hid (show tagsW W.cat e = tagsB (⟨#[59]⟩ ++ tg) by unfold tagsW; rw [hat, Htg.out s hat])
          have hts : tg.size ≤ 1000 := by rw [Htg.out s hat]; exact Hok.out.cat.tags _ s (catAt_mem hat)
          have HTg := Lib.hid (ev_Tags (⟨#[59]⟩ ++ tg) V (by rw [semi_size]; omega) (Hmx.out.ext (Hx.out.trans (Hx0.out.trans HxV.out))))
          have e2 : V.cell? ⟨g5, 2, none⟩ = some (.string tg) := blk_cell H5V.out 2 rfl
          have q1 : ¬ (9223372036854775807 < 1 + tg.size) := by omega
          clear hat
          go_wp2_with (go_at_call 72; refine HTg.out.mono ?_; rintro _ w6 ⟨A6, c6, rfl, hown6, hx6⟩; have Hown6 := Lib.hid hown6; have Hx6 := Lib.hid hx6; clear hown6 hx6)
          go_meet
          refine ⟨A6, _, c6, rfl, by rw [Htw.out]; exact (Own.flat (ok' := fun _ => False) strR_flat Hown6.out (fun _ _ => rfl)).sl (fun g hb9 _ _ => Nat.le_trans HxV.out.size hb9) (fun _ _ h => h.elim), Hx6.out⟩
      case rest =>
        obtain ⟨A, nt, ct, hs4, hsl, hx6⟩ := hcut
        subst hs4
        obtain ⟨V2, hV2⟩ : ∃ V2, V2 = wc := ⟨_, rfl⟩
        rw [← hV2] at hsl hx6 ⊢
        have hx02 : Ext W0 V2 := HxV.out.trans hx6
        have HslV2 := Lib.hid hsl
        have hwV2 : Ext w V2 := Hx0.out.trans hx02
        have HcV2 := Lib.hid (Hc.out.ext hwV2)
        have HwV2 := Lib.hid hwV2
        have HKV2 := Lib.hid (Ext.keeps hx02 (fun g => g = g3))
        have hbV2 : b < V2.heap.size := Nat.lt_of_lt_of_le hb0 hx02.size
        have HtL := Lib.hid (show (tagsW W.cat e).length ≤ 1000000 ∧ ∀ t ∈ tagsW W.cat e, t.size ≤ 1000000 by
          unfold tagsW
          cases hat : catAt W.cat e.item e.tick with
          | none => exact ⟨by simp, by simp⟩
          | some s =>
            have hts : s.tags.size ≤ 1000 := Hok.out.cat.tags _ s (catAt_mem hat)
            have hl := tagsB_len (⟨#[59]⟩ ++ s.tags)
            have hz := semi_size s.tags
            exact ⟨by simp only; omega, fun t ht => by have := tagsB_size ht; omega⟩)
        have hnt : nt ≤ 1000000 := by have h9 := HtL.out.1; rw [hsl.1] at h9; exact h9
        have H3fpV2 := Lib.hid H3fp.out
        have hmx2 : Mx V2.drew := Hmx.out.ext (Hx.out.trans hwV2.drew)
        have HmxV := Lib.hid hmx2
        clear hV2 hsl hx6 hx02 hwV2 hmx2
        obtain ⟨m19, fm19, qm, hpart, hsub, hbf, hback⟩ := wld_crd (HcV2.out.ext ((Keeps.refl _ V2).drew))
        have HA := Lib.hid (crd_Apply m19 fm19 W.crd e A nt ct (tagsW W.cat e) (fun g => W0.heap.size ≤ g) V2.drew hpart HslV2.out.drew (fun g hg hm => by have := Hfl.out g (hsub _ hm); have := Hx0.out.size; omega) hnt HtL.out.2 HmxV.out Ht.out.sm Hmay.out Hke.out.1 Hke.out.2 (Hok.out.crd.last e Haf.out) (by have := Hok.out.crd.app; have := Hn.out; omega) (by have := Hok.out.crd.len e.person; have := Hn.out; omega) (Hok.out.crd.shown _).1 (by have := (Hok.out.crd.shown (e.person, e.item)).2; have := Hn.out; omega) (Hok.out.crd.fans _).1 (by have := (Hok.out.crd.fans e.item).2; have := Hn.out; omega))
        have Hback := Lib.hid hback
        have Hfree := Lib.hid (fun (g : Nat) (hg : g = b ∨ g = g3) => show g ∉ fm19 from by rcases hg with rfl | rfl; exact hbf; exact fun hm => H3fpV2.out (hsub _ hm))
        have HS := Lib.hid (fun (w' : World) (hk : Keeps (fun g => g = b ∨ g = g3) V2 w') => show w'.cell? ⟨b, 19, none⟩ = some (.pointer (some ⟨m19, 0, none⟩)) ∧ w'.cell? ⟨g3, 0, none⟩ = some (.string e.src) ∧ w'.cell? ⟨g3, 1, none⟩ = some (.int .i64 e.num) ∧ w'.cell? ⟨g3, 2, none⟩ = some (.int .i64 e.tick) ∧ w'.cell? ⟨g3, 3, none⟩ = some (.int .i64 e.kind) ∧ w'.cell? ⟨g3, 4, none⟩ = some (.string e.person) ∧ w'.cell? ⟨g3, 5, none⟩ = some (.string e.item) ∧ w'.cell? ⟨g3, 6, none⟩ = some (.int .i64 e.value) ∧ w'.cell? ⟨g3, 7, none⟩ = some (.string e.text) from ⟨(hk.cell (p := ⟨b, 19, none⟩) hbV2 (.inl rfl)).trans qm, HG.out w' (HKV2.out.then_ hk (fun g _ hg => .inr hg))⟩)
        clear hpart hback hsub hbf qm
        go_upto_region 11 with fail
        refine wp_region_held_drew (S := fun w' => w'.cell? ⟨b, 19, none⟩ = some (.pointer (some ⟨m19, 0, none⟩)) ∧ w'.cell? ⟨g3, 0, none⟩ = some (.string e.src) ∧ w'.cell? ⟨g3, 1, none⟩ = some (.int .i64 e.num) ∧ w'.cell? ⟨g3, 2, none⟩ = some (.int .i64 e.tick) ∧ w'.cell? ⟨g3, 3, none⟩ = some (.int .i64 e.kind) ∧ w'.cell? ⟨g3, 4, none⟩ = some (.string e.person) ∧ w'.cell? ⟨g3, 5, none⟩ = some (.string e.item) ∧ w'.cell? ⟨g3, 6, none⟩ = some (.int .i64 e.value) ∧ w'.cell? ⟨g3, 7, none⟩ = some (.string e.text)) (by kernel_rfl) (by exact HS.out V2.drew ((Keeps.refl _ _).drew)) (fun hHeld => ?_)
        change wpAnyH _ _ _ _ _ _ #[false, false, false, false, false, false, false] _ _
        refine wpAnyH_take (i := 0) (oi := { dst := some 39, op := Go.Op.move (Go.Operand.tmp 0), type := 39, pos := "world.go:126", after := #[], guard := none }) (v := ?_) rfl (by kernel_rfl) (by kernel_rfl) (by kernel_rfl) (fun _ _ _ h => h) (Or.inl ⟨by rfl, ?_⟩) hHeld ?_
        rotate_left
        · intro w hSw
          (try dsimp only at hSw)
          go_simp
          all_goals (with_reducible rfl)
        try simp only [Act.put, List.setIfInBounds_toArray, List.set_cons_zero, List.set_cons_succ]
        refine wpAnyH_take (i := 1) (oi := { dst := some 40, op := Go.Op.nilCheck (Go.Operand.tmp 39), type := 0, pos := "world.go:126", after := #[{ on := 0, ground := Go.Ground.data }], guard := none }) (v := ?_) rfl (by kernel_rfl) (by kernel_rfl) (by kernel_rfl) (fun _ _ _ h => h) (Or.inl ⟨by rfl, ?_⟩) hHeld ?_
        rotate_left
        · intro w hSw
          (try dsimp only at hSw)
          go_simp
          all_goals (with_reducible rfl)
        try simp only [Act.put, List.setIfInBounds_toArray, List.set_cons_zero, List.set_cons_succ]
        refine wpAnyH_take (i := 2) (oi := { dst := some 41, op := Go.Op.fieldAddr 61 (Go.Operand.tmp 40) 7, type := 0, pos := "world.go:126", after := #[{ on := 1, ground := Go.Ground.data }], guard := none }) (v := ?_) rfl (by kernel_rfl) (by kernel_rfl) (by kernel_rfl) (fun _ _ _ h => h) (Or.inl ⟨by rfl, ?_⟩) hHeld ?_
        rotate_left
        · intro w hSw
          (try dsimp only at hSw)
          go_simp
          all_goals (with_reducible rfl)
        try simp only [Act.put, List.setIfInBounds_toArray, List.set_cons_zero, List.set_cons_succ]
        refine wpAnyH_take (i := 3) (oi := { dst := some 42, op := Go.Op.load 55 (Go.Operand.tmp 41), type := 55, pos := "world.go:126", after := #[{ on := 2, ground := Go.Ground.data }], guard := none }) (v := ?_) rfl (by kernel_rfl) (by kernel_rfl) (by kernel_rfl) (fun _ _ _ h => h) (Or.inl ⟨by rfl, ?_⟩) hHeld ?_
        rotate_left
        · intro w hSw
          (try dsimp only at hSw)
          go_simp
          all_goals (with_reducible rfl)
        try simp only [Act.put, List.setIfInBounds_toArray, List.set_cons_zero, List.set_cons_succ]
        refine wpAnyH_take (i := 4) (oi := { dst := some 43, op := Go.Op.load 30 (Go.Operand.tmp 3), type := 30, pos := "world.go:126", after := #[], guard := none }) (v := ?_) rfl (by kernel_rfl) (by kernel_rfl) (by kernel_rfl) (fun _ _ _ h => h) (Or.inl ⟨by rfl, ?_⟩) hHeld ?_
        rotate_left
        · intro w hSw
          (try dsimp only at hSw)
          go_simp
          all_goals (with_reducible rfl)
        try simp only [Act.put, List.setIfInBounds_toArray, List.set_cons_zero, List.set_cons_succ]
        refine wpAnyH_take (i := 5) (oi := { dst := some 44, op := Go.Op.move (Go.Operand.tmp 4), type := 34, pos := "world.go:126", after := #[], guard := none }) (v := ?_) rfl (by kernel_rfl) (by kernel_rfl) (by kernel_rfl) (fun _ _ _ h => h) (Or.inl ⟨by rfl, ?_⟩) hHeld ?_
        rotate_left
        · intro w hSw
          (try dsimp only at hSw)
          go_simp
          all_goals (with_reducible rfl)
        try simp only [Act.put, List.setIfInBounds_toArray, List.set_cons_zero, List.set_cons_succ]
        refine wpAnyH_ready (rs := [6]) (by kernel_rfl) (by simp) ?_
        refine (AllReadyH.cons (o := { dst := some 45, op := Go.Op.call { callee := Go.Callee.value (Go.Operand.func 80), args := #[Go.Operand.tmp 42, Go.Operand.tmp 43, Go.Operand.tmp 44], argTypes := #[55, 30, 34] }, type := 4, pos := "world.go:126", after := #[{ on := 3, ground := Go.Ground.data }, { on := 4, ground := Go.Ground.data }, { on := 5, ground := Go.Ground.data }], guard := none }) rfl (fun K hK => ?_) AllReadyH.nil)
        (go_simp; go_at_call 80; refine HA.out.mono ?_; rintro _ X1 ⟨rfl, f5, hc5, ht5⟩; have hk5 : Keeps (fun g => g = b ∨ g = g3) V2 X1 := Keeps.then_ ((Keeps.refl _ V2).drew) ht5.keeps (fun g _ hg => Hfree.out g hg))
        refine hK.out _ _ (by exact HS.out _ (by repeat (first | with_reducible exact hk5 | with_reducible exact Keeps.refl _ _ | with_reducible refine Keeps.drew ?_ | with_reducible refine Keeps.drewN ?_ _ | with_reducible refine Keeps.alloc ?_ _ | with_reducible refine Keeps.setCell ?_ (by first | (intro h; simp at h; done) | (intro _; simp; done) | (intro _; simp; omega) | (intro h; simp at h; omega)) _))) (fun hHeld => ?_)
        clear hK K
        try simp only [List.setIfInBounds_toArray, List.set_cons_zero, List.set_cons_succ]
        refine wpAnyH_done (by kernel_rfl) ?_ _
        obtain ⟨fp1, hc6, ht6⟩ := Hback.out X1 f5 _ hc5 ht5
        have HcX1 := Lib.hid hc6
        have HtX1 := Lib.hid ((Turned.of_ext ((Keeps.refl _ V2).drew)).trans ht6)
        have HKX1 := Lib.hid (HKV2.out.then_ hk5 (fun g _ hg => .inr hg))
        have H3fpX1 := Lib.hid (show g3 ∉ fp1 from fun hm => by rcases ht6.grew g3 hm with h9 | h9; exact H3fpV2.out h9; exact absurd h9 (Nat.not_le.2 (Nat.lt_of_lt_of_le h30 HKV2.out.size)))
        have hbX1 : b < X1.heap.size := Nat.lt_of_lt_of_le hbV2 hk5.size
        clear hHeld hc5 ht5 hk5 hc6 ht6 HS HA Hback Hfree
        obtain ⟨wn, hwn⟩ : ∃ wn, wn = worthE e := ⟨_, rfl⟩
        have HW := Lib.hid (ev_Worth e X1)
        rw [← hwn] at HW
        have HG1 := Lib.hid (HG.out X1 HKX1.out)
        obtain ⟨q0, q1, q2, q3, q4, q5, q6, q7⟩ := HG1.out
        have Hwn := Lib.hid hwn
        clear hwn
        by_cases hw : 0 < wn
        · have hwd : decide (0 < wn) = true := by simpa using hw
          have Hcnt2 := Lib.hid (show wldCount W e = { W with crd := crdAdd W.crd e (tagsW W.cat e), pop := decAdd W.pop e.item e.tick wn, pan := panAdd W.pan e.item e.tick wn, ses := sesAdd W.ses e.person e.tick e.item, pairs := P.nil } by rw [Hcnt.out]; unfold wldWorth; rw [if_pos (by rw [← Hwn.out]; exact hw), ← Hwn.out])
          have Hnm := Lib.hid (worth_names Hmay.out (by rw [← Hwn.out]; exact hw))
          have Hwb := Lib.hid (show wn ≤ 5 by rw [Hwn.out]; exact (worth_bounds Hmay.out).2)
          go_upto_region 14 with (go_at_call 81; refine HW.out.mono ?_; rintro _ X2 ⟨rfl, hx2⟩)
          have HcX2 := Lib.hid (HcX1.out.ext hx2)
          have HtX2 := Lib.hid (HtX1.out.ext_r hx2)
          have HKX2 := Lib.hid (HKX1.out.then_ (Ext.keeps hx2 (fun g => g = g3)) (fun g _ hg => hg))
          have H3fpX2 := Lib.hid H3fpX1.out
          have hbX2 : b < X2.heap.size := Nat.lt_of_lt_of_le hbX1 hx2.size
          clear hx2 q0 q1 q2 q3 q4 q5 q6 q7
          obtain ⟨m20, fm20, qm, hpart, hsub, hbf, hback⟩ := wld_pop (HcX2.out.ext ((Keeps.refl _ X2).drew))
          have HA := Lib.hid (dec_Add m20 fm20 W.pop e.item e.tick wn X2.drew hpart Hok.out.dec (name_size Hnm.out.2).1 (name_size Hnm.out.2).2 (head_tick Hmay.out).1 (head_tick Hmay.out).2 (by omega) (by have := Hwb.out; omega) (by have := Hok.out.deca; have := Hn.out; omega))
          have Hback := Lib.hid hback
          have Hfree := Lib.hid (fun (g : Nat) (hg : g = b ∨ g = g3) => show g ∉ fm20 from by rcases hg with rfl | rfl; exact hbf; exact fun hm => H3fpX2.out (hsub _ hm))
          have HS := Lib.hid (fun (w' : World) (hk : Keeps (fun g => g = b ∨ g = g3) X2 w') => show w'.cell? ⟨b, 20, none⟩ = some (.pointer (some ⟨m20, 0, none⟩)) ∧ w'.cell? ⟨g3, 0, none⟩ = some (.string e.src) ∧ w'.cell? ⟨g3, 1, none⟩ = some (.int .i64 e.num) ∧ w'.cell? ⟨g3, 2, none⟩ = some (.int .i64 e.tick) ∧ w'.cell? ⟨g3, 3, none⟩ = some (.int .i64 e.kind) ∧ w'.cell? ⟨g3, 4, none⟩ = some (.string e.person) ∧ w'.cell? ⟨g3, 5, none⟩ = some (.string e.item) ∧ w'.cell? ⟨g3, 6, none⟩ = some (.int .i64 e.value) ∧ w'.cell? ⟨g3, 7, none⟩ = some (.string e.text) from ⟨(hk.cell (p := ⟨b, 20, none⟩) hbX2 (.inl rfl)).trans qm, HG.out w' (HKX2.out.then_ hk (fun g _ hg => .inr hg))⟩)
          clear hpart hback hsub hbf qm
          go_upto_region 14 with fail
          refine wp_region_held_drew (S := fun w' => w'.cell? ⟨b, 20, none⟩ = some (.pointer (some ⟨m20, 0, none⟩)) ∧ w'.cell? ⟨g3, 0, none⟩ = some (.string e.src) ∧ w'.cell? ⟨g3, 1, none⟩ = some (.int .i64 e.num) ∧ w'.cell? ⟨g3, 2, none⟩ = some (.int .i64 e.tick) ∧ w'.cell? ⟨g3, 3, none⟩ = some (.int .i64 e.kind) ∧ w'.cell? ⟨g3, 4, none⟩ = some (.string e.person) ∧ w'.cell? ⟨g3, 5, none⟩ = some (.string e.item) ∧ w'.cell? ⟨g3, 6, none⟩ = some (.int .i64 e.value) ∧ w'.cell? ⟨g3, 7, none⟩ = some (.string e.text)) (by kernel_rfl) (by exact HS.out X2.drew ((Keeps.refl _ _).drew)) (fun hHeld => ?_)
          change wpAnyH _ _ _ _ _ _ #[false, false, false, false, false, false, false, false, false, false] _ _
          refine wpAnyH_take (i := 0) (oi := { dst := some 50, op := Go.Op.move (Go.Operand.tmp 0), type := 39, pos := "world.go:128", after := #[], guard := none }) (v := ?_) rfl (by kernel_rfl) (by kernel_rfl) (by kernel_rfl) (fun _ _ _ h => h) (Or.inl ⟨by rfl, ?_⟩) hHeld ?_
          rotate_left
          · intro w hSw
            (try dsimp only at hSw)
            go_simp
            all_goals (with_reducible rfl)
          try simp only [Act.put, List.setIfInBounds_toArray, List.set_cons_zero, List.set_cons_succ]
          refine wpAnyH_take (i := 1) (oi := { dst := some 51, op := Go.Op.nilCheck (Go.Operand.tmp 50), type := 0, pos := "world.go:128", after := #[{ on := 0, ground := Go.Ground.data }], guard := none }) (v := ?_) rfl (by kernel_rfl) (by kernel_rfl) (by kernel_rfl) (fun _ _ _ h => h) (Or.inl ⟨by rfl, ?_⟩) hHeld ?_
          rotate_left
          · intro w hSw
            (try dsimp only at hSw)
            go_simp
            all_goals (with_reducible rfl)
          try simp only [Act.put, List.setIfInBounds_toArray, List.set_cons_zero, List.set_cons_succ]
          refine wpAnyH_take (i := 2) (oi := { dst := some 52, op := Go.Op.fieldAddr 61 (Go.Operand.tmp 51) 8, type := 0, pos := "world.go:128", after := #[{ on := 1, ground := Go.Ground.data }], guard := none }) (v := ?_) rfl (by kernel_rfl) (by kernel_rfl) (by kernel_rfl) (fun _ _ _ h => h) (Or.inl ⟨by rfl, ?_⟩) hHeld ?_
          rotate_left
          · intro w hSw
            (try dsimp only at hSw)
            go_simp
            all_goals (with_reducible rfl)
          try simp only [Act.put, List.setIfInBounds_toArray, List.set_cons_zero, List.set_cons_succ]
          refine wpAnyH_take (i := 3) (oi := { dst := some 53, op := Go.Op.load 56 (Go.Operand.tmp 52), type := 56, pos := "world.go:128", after := #[{ on := 2, ground := Go.Ground.data }], guard := none }) (v := ?_) rfl (by kernel_rfl) (by kernel_rfl) (by kernel_rfl) (fun _ _ _ h => h) (Or.inl ⟨by rfl, ?_⟩) hHeld ?_
          rotate_left
          · intro w hSw
            (try dsimp only at hSw)
            go_simp
            all_goals (with_reducible rfl)
          try simp only [Act.put, List.setIfInBounds_toArray, List.set_cons_zero, List.set_cons_succ]
          refine wpAnyH_take (i := 4) (oi := { dst := some 54, op := Go.Op.fieldAddr 30 (Go.Operand.tmp 3) 5, type := 0, pos := "world.go:128", after := #[], guard := none }) (v := ?_) rfl (by kernel_rfl) (by kernel_rfl) (by kernel_rfl) (fun _ _ _ h => h) (Or.inl ⟨by rfl, ?_⟩) hHeld ?_
          rotate_left
          · intro w hSw
            (try dsimp only at hSw)
            go_simp
            all_goals (with_reducible rfl)
          try simp only [Act.put, List.setIfInBounds_toArray, List.set_cons_zero, List.set_cons_succ]
          refine wpAnyH_take (i := 5) (oi := { dst := some 55, op := Go.Op.load 9 (Go.Operand.tmp 54), type := 9, pos := "world.go:128", after := #[{ on := 4, ground := Go.Ground.data }], guard := none }) (v := ?_) rfl (by kernel_rfl) (by kernel_rfl) (by kernel_rfl) (fun _ _ _ h => h) (Or.inl ⟨by rfl, ?_⟩) hHeld ?_
          rotate_left
          · intro w hSw
            (try dsimp only at hSw)
            go_simp
            all_goals (with_reducible rfl)
          try simp only [Act.put, List.setIfInBounds_toArray, List.set_cons_zero, List.set_cons_succ]
          refine wpAnyH_take (i := 6) (oi := { dst := some 56, op := Go.Op.fieldAddr 30 (Go.Operand.tmp 3) 2, type := 0, pos := "world.go:128", after := #[], guard := none }) (v := ?_) rfl (by kernel_rfl) (by kernel_rfl) (by kernel_rfl) (fun _ _ _ h => h) (Or.inl ⟨by rfl, ?_⟩) hHeld ?_
          rotate_left
          · intro w hSw
            (try dsimp only at hSw)
            go_simp
            all_goals (with_reducible rfl)
          try simp only [Act.put, List.setIfInBounds_toArray, List.set_cons_zero, List.set_cons_succ]
          refine wpAnyH_take (i := 7) (oi := { dst := some 57, op := Go.Op.load 3 (Go.Operand.tmp 56), type := 3, pos := "world.go:128", after := #[{ on := 6, ground := Go.Ground.data }], guard := none }) (v := ?_) rfl (by kernel_rfl) (by kernel_rfl) (by kernel_rfl) (fun _ _ _ h => h) (Or.inl ⟨by rfl, ?_⟩) hHeld ?_
          rotate_left
          · intro w hSw
            (try dsimp only at hSw)
            go_simp
            all_goals (with_reducible rfl)
          try simp only [Act.put, List.setIfInBounds_toArray, List.set_cons_zero, List.set_cons_succ]
          refine wpAnyH_take (i := 8) (oi := { dst := some 58, op := Go.Op.move (Go.Operand.tmp 7), type := 3, pos := "world.go:128", after := #[], guard := none }) (v := ?_) rfl (by kernel_rfl) (by kernel_rfl) (by kernel_rfl) (fun _ _ _ h => h) (Or.inl ⟨by rfl, ?_⟩) hHeld ?_
          rotate_left
          · intro w hSw
            (try dsimp only at hSw)
            go_simp
            all_goals (with_reducible rfl)
          try simp only [Act.put, List.setIfInBounds_toArray, List.set_cons_zero, List.set_cons_succ]
          refine wpAnyH_ready (rs := [9]) (by kernel_rfl) (by simp) ?_
          refine (AllReadyH.cons (o := { dst := some 59, op := Go.Op.call { callee := Go.Callee.value (Go.Operand.func 82), args := #[Go.Operand.tmp 53, Go.Operand.tmp 55, Go.Operand.tmp 57, Go.Operand.tmp 58], argTypes := #[56, 9, 3, 2] }, type := 4, pos := "world.go:128", after := #[{ on := 3, ground := Go.Ground.data }, { on := 5, ground := Go.Ground.data }, { on := 7, ground := Go.Ground.data }, { on := 8, ground := Go.Ground.data }], guard := none }) rfl (fun K hK => ?_) AllReadyH.nil)
          (go_simp; go_at_call 82; refine HA.out.mono ?_; rintro _ X3 ⟨rfl, f5, hc5, ht5⟩; have hk5 : Keeps (fun g => g = b ∨ g = g3) X2 X3 := Keeps.then_ ((Keeps.refl _ X2).drew) ht5.keeps (fun g _ hg => Hfree.out g hg))
          refine hK.out _ _ (by exact HS.out _ (by repeat (first | with_reducible exact hk5 | with_reducible exact Keeps.refl _ _ | with_reducible refine Keeps.drew ?_ | with_reducible refine Keeps.drewN ?_ _ | with_reducible refine Keeps.alloc ?_ _ | with_reducible refine Keeps.setCell ?_ (by first | (intro h; simp at h; done) | (intro _; simp; done) | (intro _; simp; omega) | (intro h; simp at h; omega)) _))) (fun hHeld => ?_)
          clear hK K
          try simp only [List.setIfInBounds_toArray, List.set_cons_zero, List.set_cons_succ]
          refine wpAnyH_done (by kernel_rfl) ?_ _
          obtain ⟨fp3, hc6, ht6⟩ := Hback.out X3 f5 _ hc5 ht5
          have HcX3 := Lib.hid hc6
          have HtX3 := Lib.hid ((Turned.of_ext ((Keeps.refl _ X2).drew)).trans ht6)
          have HKX3 := Lib.hid (HKX2.out.then_ hk5 (fun g _ hg => .inr hg))
          have H3fpX3 := Lib.hid (show g3 ∉ fp3 from fun hm => by rcases ht6.grew g3 hm with h9 | h9; exact H3fpX2.out h9; exact absurd h9 (Nat.not_le.2 (Nat.lt_of_lt_of_le h30 HKX2.out.size)))
          have hbX3 : b < X3.heap.size := Nat.lt_of_lt_of_le hbX2 hk5.size
          clear hHeld hc5 ht5 hk5 hc6 ht6 HS HA Hback Hfree
          obtain ⟨m21, fm21, qm, hpart, hsub, hbf, hback⟩ := wld_pan (HcX3.out.ext ((Keeps.refl _ X3).drew))
          have HA := Lib.hid (pan_Add m21 fm21 W.pan e.item e.tick wn X3.drew hpart Hok.out.pan (name_size Hnm.out.2).1 (name_size Hnm.out.2).2 (head_tick Hmay.out).1 (head_tick Hmay.out).2 (by omega) (by have := Hwb.out; omega) (by have := Hok.out.pana; have := Hn.out; omega))
          have Hback := Lib.hid hback
          have Hfree := Lib.hid (fun (g : Nat) (hg : g = b ∨ g = g3) => show g ∉ fm21 from by rcases hg with rfl | rfl; exact hbf; exact fun hm => H3fpX3.out (hsub _ hm))
          have HS := Lib.hid (fun (w' : World) (hk : Keeps (fun g => g = b ∨ g = g3) X3 w') => show w'.cell? ⟨b, 21, none⟩ = some (.pointer (some ⟨m21, 0, none⟩)) ∧ w'.cell? ⟨g3, 0, none⟩ = some (.string e.src) ∧ w'.cell? ⟨g3, 1, none⟩ = some (.int .i64 e.num) ∧ w'.cell? ⟨g3, 2, none⟩ = some (.int .i64 e.tick) ∧ w'.cell? ⟨g3, 3, none⟩ = some (.int .i64 e.kind) ∧ w'.cell? ⟨g3, 4, none⟩ = some (.string e.person) ∧ w'.cell? ⟨g3, 5, none⟩ = some (.string e.item) ∧ w'.cell? ⟨g3, 6, none⟩ = some (.int .i64 e.value) ∧ w'.cell? ⟨g3, 7, none⟩ = some (.string e.text) from ⟨(hk.cell (p := ⟨b, 21, none⟩) hbX3 (.inl rfl)).trans qm, HG.out w' (HKX3.out.then_ hk (fun g _ hg => .inr hg))⟩)
          clear hpart hback hsub hbf qm
          go_upto_region 15 with fail
          refine wp_region_held_drew (S := fun w' => w'.cell? ⟨b, 21, none⟩ = some (.pointer (some ⟨m21, 0, none⟩)) ∧ w'.cell? ⟨g3, 0, none⟩ = some (.string e.src) ∧ w'.cell? ⟨g3, 1, none⟩ = some (.int .i64 e.num) ∧ w'.cell? ⟨g3, 2, none⟩ = some (.int .i64 e.tick) ∧ w'.cell? ⟨g3, 3, none⟩ = some (.int .i64 e.kind) ∧ w'.cell? ⟨g3, 4, none⟩ = some (.string e.person) ∧ w'.cell? ⟨g3, 5, none⟩ = some (.string e.item) ∧ w'.cell? ⟨g3, 6, none⟩ = some (.int .i64 e.value) ∧ w'.cell? ⟨g3, 7, none⟩ = some (.string e.text)) (by kernel_rfl) (by exact HS.out X3.drew ((Keeps.refl _ _).drew)) (fun hHeld => ?_)
          change wpAnyH _ _ _ _ _ _ #[false, false, false, false, false, false, false, false, false, false] _ _
          refine wpAnyH_take (i := 0) (oi := { dst := some 60, op := Go.Op.move (Go.Operand.tmp 0), type := 39, pos := "world.go:129", after := #[], guard := none }) (v := ?_) rfl (by kernel_rfl) (by kernel_rfl) (by kernel_rfl) (fun _ _ _ h => h) (Or.inl ⟨by rfl, ?_⟩) hHeld ?_
          rotate_left
          · intro w hSw
            (try dsimp only at hSw)
            go_simp
            all_goals (with_reducible rfl)
          try simp only [Act.put, List.setIfInBounds_toArray, List.set_cons_zero, List.set_cons_succ]
          refine wpAnyH_take (i := 1) (oi := { dst := some 61, op := Go.Op.nilCheck (Go.Operand.tmp 60), type := 0, pos := "world.go:129", after := #[{ on := 0, ground := Go.Ground.data }], guard := none }) (v := ?_) rfl (by kernel_rfl) (by kernel_rfl) (by kernel_rfl) (fun _ _ _ h => h) (Or.inl ⟨by rfl, ?_⟩) hHeld ?_
          rotate_left
          · intro w hSw
            (try dsimp only at hSw)
            go_simp
            all_goals (with_reducible rfl)
          try simp only [Act.put, List.setIfInBounds_toArray, List.set_cons_zero, List.set_cons_succ]
          refine wpAnyH_take (i := 2) (oi := { dst := some 62, op := Go.Op.fieldAddr 61 (Go.Operand.tmp 61) 9, type := 0, pos := "world.go:129", after := #[{ on := 1, ground := Go.Ground.data }], guard := none }) (v := ?_) rfl (by kernel_rfl) (by kernel_rfl) (by kernel_rfl) (fun _ _ _ h => h) (Or.inl ⟨by rfl, ?_⟩) hHeld ?_
          rotate_left
          · intro w hSw
            (try dsimp only at hSw)
            go_simp
            all_goals (with_reducible rfl)
          try simp only [Act.put, List.setIfInBounds_toArray, List.set_cons_zero, List.set_cons_succ]
          refine wpAnyH_take (i := 3) (oi := { dst := some 63, op := Go.Op.load 57 (Go.Operand.tmp 62), type := 57, pos := "world.go:129", after := #[{ on := 2, ground := Go.Ground.data }], guard := none }) (v := ?_) rfl (by kernel_rfl) (by kernel_rfl) (by kernel_rfl) (fun _ _ _ h => h) (Or.inl ⟨by rfl, ?_⟩) hHeld ?_
          rotate_left
          · intro w hSw
            (try dsimp only at hSw)
            go_simp
            all_goals (with_reducible rfl)
          try simp only [Act.put, List.setIfInBounds_toArray, List.set_cons_zero, List.set_cons_succ]
          refine wpAnyH_take (i := 4) (oi := { dst := some 64, op := Go.Op.fieldAddr 30 (Go.Operand.tmp 3) 5, type := 0, pos := "world.go:129", after := #[], guard := none }) (v := ?_) rfl (by kernel_rfl) (by kernel_rfl) (by kernel_rfl) (fun _ _ _ h => h) (Or.inl ⟨by rfl, ?_⟩) hHeld ?_
          rotate_left
          · intro w hSw
            (try dsimp only at hSw)
            go_simp
            all_goals (with_reducible rfl)
          try simp only [Act.put, List.setIfInBounds_toArray, List.set_cons_zero, List.set_cons_succ]
          refine wpAnyH_take (i := 5) (oi := { dst := some 65, op := Go.Op.load 9 (Go.Operand.tmp 64), type := 9, pos := "world.go:129", after := #[{ on := 4, ground := Go.Ground.data }], guard := none }) (v := ?_) rfl (by kernel_rfl) (by kernel_rfl) (by kernel_rfl) (fun _ _ _ h => h) (Or.inl ⟨by rfl, ?_⟩) hHeld ?_
          rotate_left
          · intro w hSw
            (try dsimp only at hSw)
            go_simp
            all_goals (with_reducible rfl)
          try simp only [Act.put, List.setIfInBounds_toArray, List.set_cons_zero, List.set_cons_succ]
          refine wpAnyH_take (i := 6) (oi := { dst := some 66, op := Go.Op.fieldAddr 30 (Go.Operand.tmp 3) 2, type := 0, pos := "world.go:129", after := #[], guard := none }) (v := ?_) rfl (by kernel_rfl) (by kernel_rfl) (by kernel_rfl) (fun _ _ _ h => h) (Or.inl ⟨by rfl, ?_⟩) hHeld ?_
          rotate_left
          · intro w hSw
            (try dsimp only at hSw)
            go_simp
            all_goals (with_reducible rfl)
          try simp only [Act.put, List.setIfInBounds_toArray, List.set_cons_zero, List.set_cons_succ]
          refine wpAnyH_take (i := 7) (oi := { dst := some 67, op := Go.Op.load 3 (Go.Operand.tmp 66), type := 3, pos := "world.go:129", after := #[{ on := 6, ground := Go.Ground.data }], guard := none }) (v := ?_) rfl (by kernel_rfl) (by kernel_rfl) (by kernel_rfl) (fun _ _ _ h => h) (Or.inl ⟨by rfl, ?_⟩) hHeld ?_
          rotate_left
          · intro w hSw
            (try dsimp only at hSw)
            go_simp
            all_goals (with_reducible rfl)
          try simp only [Act.put, List.setIfInBounds_toArray, List.set_cons_zero, List.set_cons_succ]
          refine wpAnyH_take (i := 8) (oi := { dst := some 68, op := Go.Op.move (Go.Operand.tmp 7), type := 3, pos := "world.go:129", after := #[], guard := none }) (v := ?_) rfl (by kernel_rfl) (by kernel_rfl) (by kernel_rfl) (fun _ _ _ h => h) (Or.inl ⟨by rfl, ?_⟩) hHeld ?_
          rotate_left
          · intro w hSw
            (try dsimp only at hSw)
            go_simp
            all_goals (with_reducible rfl)
          try simp only [Act.put, List.setIfInBounds_toArray, List.set_cons_zero, List.set_cons_succ]
          refine wpAnyH_ready (rs := [9]) (by kernel_rfl) (by simp) ?_
          refine (AllReadyH.cons (o := { dst := some 69, op := Go.Op.call { callee := Go.Callee.value (Go.Operand.func 83), args := #[Go.Operand.tmp 63, Go.Operand.tmp 65, Go.Operand.tmp 67, Go.Operand.tmp 68], argTypes := #[57, 9, 3, 2] }, type := 4, pos := "world.go:129", after := #[{ on := 3, ground := Go.Ground.data }, { on := 5, ground := Go.Ground.data }, { on := 7, ground := Go.Ground.data }, { on := 8, ground := Go.Ground.data }], guard := none }) rfl (fun K hK => ?_) AllReadyH.nil)
          (go_simp; go_at_call 83; refine HA.out.mono ?_; rintro _ X4 ⟨rfl, f5, hc5, ht5⟩; have hk5 : Keeps (fun g => g = b ∨ g = g3) X3 X4 := Keeps.then_ ((Keeps.refl _ X3).drew) ht5.keeps (fun g _ hg => Hfree.out g hg))
          refine hK.out _ _ (by exact HS.out _ (by repeat (first | with_reducible exact hk5 | with_reducible exact Keeps.refl _ _ | with_reducible refine Keeps.drew ?_ | with_reducible refine Keeps.drewN ?_ _ | with_reducible refine Keeps.alloc ?_ _ | with_reducible refine Keeps.setCell ?_ (by first | (intro h; simp at h; done) | (intro _; simp; done) | (intro _; simp; omega) | (intro h; simp at h; omega)) _))) (fun hHeld => ?_)
          clear hK K
          try simp only [List.setIfInBounds_toArray, List.set_cons_zero, List.set_cons_succ]
          refine wpAnyH_done (by kernel_rfl) ?_ _
          obtain ⟨fp4, hc6, ht6⟩ := Hback.out X4 f5 _ hc5 ht5
          have HcX4 := Lib.hid hc6
          have HtX4 := Lib.hid ((Turned.of_ext ((Keeps.refl _ X3).drew)).trans ht6)
          have HKX4 := Lib.hid (HKX3.out.then_ hk5 (fun g _ hg => .inr hg))
          have H3fpX4 := Lib.hid (show g3 ∉ fp4 from fun hm => by rcases ht6.grew g3 hm with h9 | h9; exact H3fpX3.out h9; exact absurd h9 (Nat.not_le.2 (Nat.lt_of_lt_of_le h30 HKX3.out.size)))
          have hbX4 : b < X4.heap.size := Nat.lt_of_lt_of_le hbX3 hk5.size
          clear hHeld hc5 ht5 hk5 hc6 ht6 HS HA Hback Hfree
          obtain ⟨m22, fm22, qm, hpart, hsub, hbf, hback⟩ := wld_ses (HcX4.out.ext ((Keeps.refl _ X4).drew))
          have HA := Lib.hid (ses_Add m22 fm22 W.ses e.person e.item e.tick X4.drew hpart (name_size Hnm.out.1).1 (name_size Hnm.out.1).2 (name_size Hnm.out.2).1 (name_size Hnm.out.2).2 (head_tick Hmay.out).1 (head_tick Hmay.out).2)
          have Hback := Lib.hid hback
          have Hfree := Lib.hid (fun (g : Nat) (hg : g = b ∨ g = g3) => show g ∉ fm22 from by rcases hg with rfl | rfl; exact hbf; exact fun hm => H3fpX4.out (hsub _ hm))
          have HS := Lib.hid (fun (w' : World) (hk : Keeps (fun g => g = b ∨ g = g3) X4 w') => show w'.cell? ⟨b, 22, none⟩ = some (.pointer (some ⟨m22, 0, none⟩)) ∧ w'.cell? ⟨g3, 0, none⟩ = some (.string e.src) ∧ w'.cell? ⟨g3, 1, none⟩ = some (.int .i64 e.num) ∧ w'.cell? ⟨g3, 2, none⟩ = some (.int .i64 e.tick) ∧ w'.cell? ⟨g3, 3, none⟩ = some (.int .i64 e.kind) ∧ w'.cell? ⟨g3, 4, none⟩ = some (.string e.person) ∧ w'.cell? ⟨g3, 5, none⟩ = some (.string e.item) ∧ w'.cell? ⟨g3, 6, none⟩ = some (.int .i64 e.value) ∧ w'.cell? ⟨g3, 7, none⟩ = some (.string e.text) from ⟨(hk.cell (p := ⟨b, 22, none⟩) hbX4 (.inl rfl)).trans qm, HG.out w' (HKX4.out.then_ hk (fun g _ hg => .inr hg))⟩)
          clear hpart hback hsub hbf qm
          go_upto_region 16 with fail
          refine wp_region_held_drew (S := fun w' => w'.cell? ⟨b, 22, none⟩ = some (.pointer (some ⟨m22, 0, none⟩)) ∧ w'.cell? ⟨g3, 0, none⟩ = some (.string e.src) ∧ w'.cell? ⟨g3, 1, none⟩ = some (.int .i64 e.num) ∧ w'.cell? ⟨g3, 2, none⟩ = some (.int .i64 e.tick) ∧ w'.cell? ⟨g3, 3, none⟩ = some (.int .i64 e.kind) ∧ w'.cell? ⟨g3, 4, none⟩ = some (.string e.person) ∧ w'.cell? ⟨g3, 5, none⟩ = some (.string e.item) ∧ w'.cell? ⟨g3, 6, none⟩ = some (.int .i64 e.value) ∧ w'.cell? ⟨g3, 7, none⟩ = some (.string e.text)) (by kernel_rfl) (by exact HS.out X4.drew ((Keeps.refl _ _).drew)) (fun hHeld => ?_)
          change wpAnyH _ _ _ _ _ _ #[false, false, false, false, false, false, false, false, false, false, false] _ _
          refine wpAnyH_take (i := 0) (oi := { dst := some 70, op := Go.Op.move (Go.Operand.tmp 0), type := 39, pos := "world.go:130", after := #[], guard := none }) (v := ?_) rfl (by kernel_rfl) (by kernel_rfl) (by kernel_rfl) (fun _ _ _ h => h) (Or.inl ⟨by rfl, ?_⟩) hHeld ?_
          rotate_left
          · intro w hSw
            (try dsimp only at hSw)
            go_simp
            all_goals (with_reducible rfl)
          try simp only [Act.put, List.setIfInBounds_toArray, List.set_cons_zero, List.set_cons_succ]
          refine wpAnyH_take (i := 1) (oi := { dst := some 71, op := Go.Op.nilCheck (Go.Operand.tmp 70), type := 0, pos := "world.go:130", after := #[{ on := 0, ground := Go.Ground.data }], guard := none }) (v := ?_) rfl (by kernel_rfl) (by kernel_rfl) (by kernel_rfl) (fun _ _ _ h => h) (Or.inl ⟨by rfl, ?_⟩) hHeld ?_
          rotate_left
          · intro w hSw
            (try dsimp only at hSw)
            go_simp
            all_goals (with_reducible rfl)
          try simp only [Act.put, List.setIfInBounds_toArray, List.set_cons_zero, List.set_cons_succ]
          refine wpAnyH_take (i := 2) (oi := { dst := some 72, op := Go.Op.fieldAddr 61 (Go.Operand.tmp 71) 10, type := 0, pos := "world.go:130", after := #[{ on := 1, ground := Go.Ground.data }], guard := none }) (v := ?_) rfl (by kernel_rfl) (by kernel_rfl) (by kernel_rfl) (fun _ _ _ h => h) (Or.inl ⟨by rfl, ?_⟩) hHeld ?_
          rotate_left
          · intro w hSw
            (try dsimp only at hSw)
            go_simp
            all_goals (with_reducible rfl)
          try simp only [Act.put, List.setIfInBounds_toArray, List.set_cons_zero, List.set_cons_succ]
          refine wpAnyH_take (i := 3) (oi := { dst := some 73, op := Go.Op.load 58 (Go.Operand.tmp 72), type := 58, pos := "world.go:130", after := #[{ on := 2, ground := Go.Ground.data }], guard := none }) (v := ?_) rfl (by kernel_rfl) (by kernel_rfl) (by kernel_rfl) (fun _ _ _ h => h) (Or.inl ⟨by rfl, ?_⟩) hHeld ?_
          rotate_left
          · intro w hSw
            (try dsimp only at hSw)
            go_simp
            all_goals (with_reducible rfl)
          try simp only [Act.put, List.setIfInBounds_toArray, List.set_cons_zero, List.set_cons_succ]
          refine wpAnyH_take (i := 4) (oi := { dst := some 74, op := Go.Op.fieldAddr 30 (Go.Operand.tmp 3) 4, type := 0, pos := "world.go:130", after := #[], guard := none }) (v := ?_) rfl (by kernel_rfl) (by kernel_rfl) (by kernel_rfl) (fun _ _ _ h => h) (Or.inl ⟨by rfl, ?_⟩) hHeld ?_
          rotate_left
          · intro w hSw
            (try dsimp only at hSw)
            go_simp
            all_goals (with_reducible rfl)
          try simp only [Act.put, List.setIfInBounds_toArray, List.set_cons_zero, List.set_cons_succ]
          refine wpAnyH_take (i := 5) (oi := { dst := some 75, op := Go.Op.load 9 (Go.Operand.tmp 74), type := 9, pos := "world.go:130", after := #[{ on := 4, ground := Go.Ground.data }], guard := none }) (v := ?_) rfl (by kernel_rfl) (by kernel_rfl) (by kernel_rfl) (fun _ _ _ h => h) (Or.inl ⟨by rfl, ?_⟩) hHeld ?_
          rotate_left
          · intro w hSw
            (try dsimp only at hSw)
            go_simp
            all_goals (with_reducible rfl)
          try simp only [Act.put, List.setIfInBounds_toArray, List.set_cons_zero, List.set_cons_succ]
          refine wpAnyH_take (i := 6) (oi := { dst := some 76, op := Go.Op.fieldAddr 30 (Go.Operand.tmp 3) 2, type := 0, pos := "world.go:130", after := #[], guard := none }) (v := ?_) rfl (by kernel_rfl) (by kernel_rfl) (by kernel_rfl) (fun _ _ _ h => h) (Or.inl ⟨by rfl, ?_⟩) hHeld ?_
          rotate_left
          · intro w hSw
            (try dsimp only at hSw)
            go_simp
            all_goals (with_reducible rfl)
          try simp only [Act.put, List.setIfInBounds_toArray, List.set_cons_zero, List.set_cons_succ]
          refine wpAnyH_take (i := 7) (oi := { dst := some 77, op := Go.Op.load 3 (Go.Operand.tmp 76), type := 3, pos := "world.go:130", after := #[{ on := 6, ground := Go.Ground.data }], guard := none }) (v := ?_) rfl (by kernel_rfl) (by kernel_rfl) (by kernel_rfl) (fun _ _ _ h => h) (Or.inl ⟨by rfl, ?_⟩) hHeld ?_
          rotate_left
          · intro w hSw
            (try dsimp only at hSw)
            go_simp
            all_goals (with_reducible rfl)
          try simp only [Act.put, List.setIfInBounds_toArray, List.set_cons_zero, List.set_cons_succ]
          refine wpAnyH_take (i := 8) (oi := { dst := some 78, op := Go.Op.fieldAddr 30 (Go.Operand.tmp 3) 5, type := 0, pos := "world.go:130", after := #[], guard := none }) (v := ?_) rfl (by kernel_rfl) (by kernel_rfl) (by kernel_rfl) (fun _ _ _ h => h) (Or.inl ⟨by rfl, ?_⟩) hHeld ?_
          rotate_left
          · intro w hSw
            (try dsimp only at hSw)
            go_simp
            all_goals (with_reducible rfl)
          try simp only [Act.put, List.setIfInBounds_toArray, List.set_cons_zero, List.set_cons_succ]
          refine wpAnyH_take (i := 9) (oi := { dst := some 79, op := Go.Op.load 9 (Go.Operand.tmp 78), type := 9, pos := "world.go:130", after := #[{ on := 8, ground := Go.Ground.data }], guard := none }) (v := ?_) rfl (by kernel_rfl) (by kernel_rfl) (by kernel_rfl) (fun _ _ _ h => h) (Or.inl ⟨by rfl, ?_⟩) hHeld ?_
          rotate_left
          · intro w hSw
            (try dsimp only at hSw)
            go_simp
            all_goals (with_reducible rfl)
          try simp only [Act.put, List.setIfInBounds_toArray, List.set_cons_zero, List.set_cons_succ]
          refine wpAnyH_ready (rs := [10]) (by kernel_rfl) (by simp) ?_
          refine (AllReadyH.cons (o := { dst := some 80, op := Go.Op.call { callee := Go.Callee.value (Go.Operand.func 84), args := #[Go.Operand.tmp 73, Go.Operand.tmp 75, Go.Operand.tmp 77, Go.Operand.tmp 79], argTypes := #[58, 9, 3, 9] }, type := 4, pos := "world.go:130", after := #[{ on := 3, ground := Go.Ground.data }, { on := 5, ground := Go.Ground.data }, { on := 7, ground := Go.Ground.data }, { on := 9, ground := Go.Ground.data }], guard := none }) rfl (fun K hK => ?_) AllReadyH.nil)
          (go_simp; go_at_call 84; refine HA.out.mono ?_; rintro _ X5 ⟨rfl, f5, hc5, ht5⟩; have hk5 : Keeps (fun g => g = b ∨ g = g3) X4 X5 := Keeps.then_ ((Keeps.refl _ X4).drew) ht5.keeps (fun g _ hg => Hfree.out g hg))
          refine hK.out _ _ (by exact HS.out _ (by repeat (first | with_reducible exact hk5 | with_reducible exact Keeps.refl _ _ | with_reducible refine Keeps.drew ?_ | with_reducible refine Keeps.drewN ?_ _ | with_reducible refine Keeps.alloc ?_ _ | with_reducible refine Keeps.setCell ?_ (by first | (intro h; simp at h; done) | (intro _; simp; done) | (intro _; simp; omega) | (intro h; simp at h; omega)) _))) (fun hHeld => ?_)
          clear hK K
          try simp only [List.setIfInBounds_toArray, List.set_cons_zero, List.set_cons_succ]
          refine wpAnyH_done (by kernel_rfl) ?_ _
          obtain ⟨fp5, hc6, ht6⟩ := Hback.out X5 f5 _ hc5 ht5
          have HcX5 := Lib.hid hc6
          have HtX5 := Lib.hid ((Turned.of_ext ((Keeps.refl _ X4).drew)).trans ht6)
          have HKX5 := Lib.hid (HKX4.out.then_ hk5 (fun g _ hg => .inr hg))
          have H3fpX5 := Lib.hid (show g3 ∉ fp5 from fun hm => by rcases ht6.grew g3 hm with h9 | h9; exact H3fpX4.out h9; exact absurd h9 (Nat.not_le.2 (Nat.lt_of_lt_of_le h30 HKX4.out.size)))
          have hbX5 : b < X5.heap.size := Nat.lt_of_lt_of_le hbX4 hk5.size
          clear hHeld hc5 ht5 hk5 hc6 ht6 HS HA Hback Hfree
          obtain ⟨fp9, hc9, ht9⟩ := wld_nopairs HcX5.out
          have Hc9 := Lib.hid hc9
          have Ht9 := Lib.hid ht9
          obtain ⟨hh, fh, hbz, _⟩ := BoxAt.focus HcX5.out
          have q23 : X5.cell? ⟨b, 23, none⟩ = some (optV hh.2.2.2.2.2.2.2.2) := blk_cell hbz 23 rfl
          have gfree := blk_free hbz
          clear hc9 ht9 hbz
          go_wp2_with fail
          exact ⟨rfl, .tuple #[], by simp [results, Tryz.results49], rfl, fp9, by rw [Hcnt2.out]; exact Hc9.out, (Turned.of_ext HwV2.out).trans (HtX2.out.trans (HtX3.out.trans (HtX4.out.trans (HtX5.out.trans Ht9.out))))⟩
        · have hwd : decide (0 < wn) = false := by simpa using hw
          have Hcnt2 := Lib.hid (show wldCount W e = { W with crd := crdAdd W.crd e (tagsW W.cat e) } by rw [Hcnt.out]; unfold wldWorth; rw [if_neg (by rw [← Hwn.out]; exact hw)])
          go_wp2_with (go_at_call 81; refine HW.out.mono ?_; rintro _ X2 ⟨rfl, hx2⟩; have Hx2 := Lib.hid hx2; clear hx2)
          exact ⟨rfl, .tuple #[], by simp [results, Tryz.results49], rfl, fp1, by rw [Hcnt2.out]; exact HcX1.out.ext Hx2.out, (Turned.of_ext HwV2.out).trans (HtX1.out.ext_r Hx2.out)⟩
end Go.Proofs.YtpkkkhgmkndpdaaGreatDoor
namespace Go.Proofs.YtpkkkhgmkndpdaaGreatDoor
open Go Go.RowKit Go.Proofs
attribute [local go_sem ↓] Go.wp_at_zero Go.wp_at_succ
section
variable {P : PrOb}
def wldTake (W : Wld P) (e : Ev) : Wld P := { W with any := true, last := e, added := putM (fun a b : Idt => a.1 == b.1 && a.2 == b.2) W.added (e.src, e.num) true, events := W.events ++ [e] }
def wldPut (W : Wld P) (e : Ev) : Wld P := wldCount (wldTake W e) e
theorem take_ok {n : Nat} {L : Option Ev} {W : Wld P} {e : Ev} (h : CntOk n L W) : CntOk n L (wldTake W e) := ⟨h.cat, h.crd, h.dec, h.deca, h.pan, h.pana⟩
theorem put_ok {n : Nat} {L : Option Ev} {W : Wld P} {e : Ev} (h : CntOk n L W) (ha : Aft L e) (ht : EvTn e) (hm : mayE e = true) : CntOk (n + 1) (some e) (wldPut W e) := count_ok (take_ok h) ha ht hm
end
theorem info_apiE : (Tryz.prog.info? 30).map (fun i => (i.zero, i.size, i.bytes)) = some (some (.agg #[.string ⟨#[]⟩, .int .i64 0, .int .i64 0, .int .i64 0, .string ⟨#[]⟩, .string ⟨#[]⟩, .int .i64 0, .string ⟨#[]⟩]), 8, 96) := by kernel_rfl
set_option maxRecDepth 100000 in
set_option maxHeartbeats 8000000 in
theorem wo_put (P : PrOb) (n : Nat) (L : Option Ev) (b : Nat) (fp : List Nat) (W : Wld P) (e : Ev) (w0 w : World) (h : WldAt P w b fp W) (hx : Ext w0 w) (hfr : ∀ g ∈ fp, w0.heap.size ≤ g) (hm : Mx w0) (ht : EvTn e) (hmay : mayE e = true) (hok : CntOk n L W) (haf : Aft L e) (hn : n < 1048576) (hlen : W.events.length ≤ 1048576) :
    Calls Tryz.prog 24 #[.pointer (some ⟨b, 0, none⟩), .agg #[.string e.src, .int .i64 e.num, .int .i64 e.tick, .int .i64 e.kind, .string e.person, .string e.item, .int .i64 e.value, .string e.text]] w fun r w' => r = .returned (.tuple #[]) ∧ ∃ fp', WldAt P w' b fp' (wldPut W e) ∧ Turned fp fp' w w' := by
  have Hc := Lib.hid h
  have Hx := Lib.hid hx
  have Hfr := Lib.hid hfr
  have Hmx := Lib.hid hm
  have Ht := Lib.hid ht
  have Hmay := Lib.hid hmay
  have Hok := Lib.hid hok
  have Haf := Lib.hid haf
  have Hn := Lib.hid hn
  obtain ⟨hbfp, hbw⟩ := WldAt.root h
  have hfl := h.lt
  obtain ⟨W0, hW0⟩ : ∃ X, X = w.alloc (.cells #[.string e.src, .int .i64 e.num, .int .i64 e.tick, .int .i64 e.kind, .string e.person, .string e.item, .int .i64 e.value, .string e.text] 30) := ⟨_, rfl⟩
  obtain ⟨g3, hg3⟩ : ∃ g, g = w.heap.size := ⟨_, rfl⟩
  have hgb0 : W0.heap[g3]? = some (.cells #[.string e.src, .int .i64 e.num, .int .i64 e.tick, .int .i64 e.kind, .string e.person, .string e.item, .int .i64 e.value, .string e.text] 30) := by rw [hW0, hg3]; exact blk_new _ _
  have Hx0 := Lib.hid (show Ext w W0 by rw [hW0]; exact (Keeps.refl _ _).alloc _)
  have Hg3 := Lib.hid hgb0
  have H3fp := Lib.hid (show g3 ∉ fp from fun hm => by have := hfl g3 hm; omega)
  have hbg : b ≠ g3 := by omega
  have hb0 : b < W0.heap.size := Nat.lt_of_lt_of_le hbw Hx0.out.size
  have h30 : g3 < W0.heap.size := (Array.getElem?_eq_some_iff.1 hgb0).1
  have HG := Lib.hid (fun (w' : World) (hk : Keeps (fun g => g = g3) W0 w') => show w'.cell? ⟨g3, 0, none⟩ = some (.string e.src) ∧ w'.cell? ⟨g3, 1, none⟩ = some (.int .i64 e.num) ∧ w'.cell? ⟨g3, 2, none⟩ = some (.int .i64 e.tick) ∧ w'.cell? ⟨g3, 3, none⟩ = some (.int .i64 e.kind) ∧ w'.cell? ⟨g3, 4, none⟩ = some (.string e.person) ∧ w'.cell? ⟨g3, 5, none⟩ = some (.string e.item) ∧ w'.cell? ⟨g3, 6, none⟩ = some (.int .i64 e.value) ∧ w'.cell? ⟨g3, 7, none⟩ = some (.string e.text) from ⟨blk_cell (hk.blk Hg3.out rfl) 0 rfl, blk_cell (hk.blk Hg3.out rfl) 1 rfl, blk_cell (hk.blk Hg3.out rfl) 2 rfl, blk_cell (hk.blk Hg3.out rfl) 3 rfl, blk_cell (hk.blk Hg3.out rfl) 4 rfl, blk_cell (hk.blk Hg3.out rfl) 5 rfl, blk_cell (hk.blk Hg3.out rfl) 6 rfl, blk_cell (hk.blk Hg3.out rfl) 7 rfl⟩)
  obtain ⟨hh, fh, hbz, _⟩ := BoxAt.focus (Hc.out.ext Hx0.out)
  have gfree := blk_free hbz
  have b7 : W0.cell? ⟨b, 7, none⟩ = some (.bool W.any) := blk_cell hbz 7 rfl
  have b8 : W0.cell? ⟨b, 8, none⟩ = some (.string W.last.src) := blk_cell hbz 8 rfl
  have b9 : W0.cell? ⟨b, 9, none⟩ = some (.int .i64 W.last.num) := blk_cell hbz 9 rfl
  have b10 : W0.cell? ⟨b, 10, none⟩ = some (.int .i64 W.last.tick) := blk_cell hbz 10 rfl
  have b11 : W0.cell? ⟨b, 11, none⟩ = some (.int .i64 W.last.kind) := blk_cell hbz 11 rfl
  have b12 : W0.cell? ⟨b, 12, none⟩ = some (.string W.last.person) := blk_cell hbz 12 rfl
  have b13 : W0.cell? ⟨b, 13, none⟩ = some (.string W.last.item) := blk_cell hbz 13 rfl
  have b14 : W0.cell? ⟨b, 14, none⟩ = some (.int .i64 W.last.value) := blk_cell hbz 14 rfl
  have b15 : W0.cell? ⟨b, 15, none⟩ = some (.string W.last.text) := blk_cell hbz 15 rfl
  obtain ⟨fp1, hc1, ht1⟩ := wld_last (Hc.out.ext Hx0.out) e
  have Hc1 := Lib.hid hc1
  have Ht1 := Lib.hid ((Turned.of_ext Hx0.out).trans ht1)
  have Ht0 := Lib.hid ht1
  have Hk1 := Lib.hid (wLast_keeps W0 b e)
  clear h hx hfr hm ht hmay hok haf hn hfl hgb0 hbz hc1 ht1
  go_enter Tryz.func24, Tryz.ntmps24
  go_upto_region 1 with fail
  rw [← hW0, ← hg3]
  clear hW0 hg3
  refine wp_region_held_drew (S := fun w' => w'.cell? ⟨g3, 0, none⟩ = some (.string e.src) ∧ w'.cell? ⟨g3, 1, none⟩ = some (.int .i64 e.num) ∧ w'.cell? ⟨g3, 2, none⟩ = some (.int .i64 e.tick) ∧ w'.cell? ⟨g3, 3, none⟩ = some (.int .i64 e.kind) ∧ w'.cell? ⟨g3, 4, none⟩ = some (.string e.person) ∧ w'.cell? ⟨g3, 5, none⟩ = some (.string e.item) ∧ w'.cell? ⟨g3, 6, none⟩ = some (.int .i64 e.value) ∧ w'.cell? ⟨g3, 7, none⟩ = some (.string e.text)) (by kernel_rfl) (by exact HG.out W0.drew ((Keeps.refl _ _).drew)) (fun hHeld => ?_)
  change wpAnyH _ _ _ _ _ _ #[false, false, false, false, false, false, false, false, false] _ _
  refine wpAnyH_take (i := 0) (oi := { dst := some 4, op := Go.Op.move (Go.Operand.tmp 0), type := 39, pos := "world.go:93", after := #[], guard := none }) (v := ?_) rfl (by kernel_rfl) (by kernel_rfl) (by kernel_rfl) (fun _ _ _ h => h) (Or.inl ⟨by rfl, ?_⟩) hHeld ?_
  rotate_left
  · intro w hSw
    (try dsimp only at hSw)
    go_simp
    all_goals (with_reducible rfl)
  try simp only [Act.put, List.setIfInBounds_toArray, List.set_cons_zero, List.set_cons_succ]
  refine wpAnyH_take (i := 1) (oi := { dst := some 5, op := Go.Op.move (Go.Operand.tmp 0), type := 39, pos := "world.go:93", after := #[{ on := 5, ground := Go.Ground.gcOnly Go.Departure.lateStores }], guard := none }) (v := ?_) rfl (by kernel_rfl) (by kernel_rfl) (by kernel_rfl) (fun _ _ _ h => h) (Or.inl ⟨by rfl, ?_⟩) hHeld ?_
  rotate_left
  · intro w hSw
    (try dsimp only at hSw)
    go_simp
    all_goals (with_reducible rfl)
  try simp only [Act.put, List.setIfInBounds_toArray, List.set_cons_zero, List.set_cons_succ]
  refine wpAnyH_take (i := 2) (oi := { dst := some 6, op := Go.Op.load 30 (Go.Operand.tmp 3), type := 30, pos := "world.go:93", after := #[{ on := 5, ground := Go.Ground.gcOnly Go.Departure.lateStores }], guard := none }) (v := ?_) rfl (by kernel_rfl) (by kernel_rfl) (by kernel_rfl) (fun _ _ _ h => h) (Or.inl ⟨by rfl, ?_⟩) hHeld ?_
  rotate_left
  · intro w hSw
    (try dsimp only at hSw)
    go_simp
    all_goals (with_reducible rfl)
  try simp only [Act.put, List.setIfInBounds_toArray, List.set_cons_zero, List.set_cons_succ]
  refine wpAnyH_take (i := 3) (oi := { dst := some 7, op := Go.Op.nilCheck (Go.Operand.tmp 4), type := 0, pos := "world.go:93", after := #[{ on := 0, ground := Go.Ground.data }, { on := 0, ground := Go.Ground.phase }, { on := 1, ground := Go.Ground.textOnly Go.Departure.lateStores }, { on := 2, ground := Go.Ground.textOnly Go.Departure.lateStores }], guard := none }) (v := ?_) rfl (by kernel_rfl) (by kernel_rfl) (by kernel_rfl) (fun _ _ _ h => h) (Or.inl ⟨by rfl, ?_⟩) hHeld ?_
  rotate_left
  · intro w hSw
    (try dsimp only at hSw)
    go_simp
    all_goals (with_reducible rfl)
  try simp only [Act.put, List.setIfInBounds_toArray, List.set_cons_zero, List.set_cons_succ]
  refine wpAnyH_take (i := 4) (oi := { dst := some 8, op := Go.Op.fieldAddr 61 (Go.Operand.tmp 7) 2, type := 0, pos := "world.go:93", after := #[{ on := 3, ground := Go.Ground.data }, { on := 0, ground := Go.Ground.phase }, { on := 1, ground := Go.Ground.textOnly Go.Departure.lateStores }, { on := 2, ground := Go.Ground.textOnly Go.Departure.lateStores }], guard := none }) (v := ?_) rfl (by kernel_rfl) (by kernel_rfl) (by kernel_rfl) (fun _ _ _ h => h) (Or.inl ⟨by rfl, ?_⟩) hHeld ?_
  rotate_left
  · intro w hSw
    (try dsimp only at hSw)
    go_simp
    all_goals (with_reducible rfl)
  try simp only [Act.put, List.setIfInBounds_toArray, List.set_cons_zero, List.set_cons_succ]
  refine wpAnyH_ready (rs := [5]) (by kernel_rfl) (by simp) ?_
  refine (AllReadyH.cons (o := { dst := none, op := Go.Op.store 4 (Go.Operand.tmp 8) (Go.Operand.const (Go.Value.bool true)), type := 0, pos := "world.go:93", after := #[{ on := 4, ground := Go.Ground.data }, { on := 0, ground := Go.Ground.phase }, { on := 1, ground := Go.Ground.textOnly Go.Departure.lateStores }, { on := 2, ground := Go.Ground.textOnly Go.Departure.lateStores }], guard := none }) rfl (fun K hK => ?_) AllReadyH.nil)
  go_simp
  refine hK.out _ _ (by exact HG.out _ (by repeat (first | with_reducible exact Keeps.refl _ _ | with_reducible exact Keeps.refl _ _ | with_reducible refine Keeps.drew ?_ | with_reducible refine Keeps.drewN ?_ _ | with_reducible refine Keeps.alloc ?_ _ | with_reducible refine Keeps.setCell ?_ (by first | (intro h; simp at h; done) | (intro _; simp; done) | (intro _; simp; omega) | (intro h; simp at h; omega)) _))) (fun hHeld => ?_)
  clear hK K
  try simp only [List.setIfInBounds_toArray, List.set_cons_zero, List.set_cons_succ]
  refine wpAnyH_take (i := 6) (oi := { dst := some 9, op := Go.Op.nilCheck (Go.Operand.tmp 5), type := 0, pos := "world.go:93", after := #[{ on := 1, ground := Go.Ground.data }, { on := 0, ground := Go.Ground.phase }, { on := 1, ground := Go.Ground.phase }, { on := 2, ground := Go.Ground.phase }, { on := 3, ground := Go.Ground.phase }, { on := 4, ground := Go.Ground.phase }, { on := 5, ground := Go.Ground.phase }], guard := none }) (v := ?_) rfl (by kernel_rfl) (by kernel_rfl) (by kernel_rfl) (fun _ _ _ h => h) (Or.inl ⟨by rfl, ?_⟩) hHeld ?_
  rotate_left
  · intro w hSw
    (try dsimp only at hSw)
    go_simp
    all_goals (with_reducible rfl)
  try simp only [Act.put, List.setIfInBounds_toArray, List.set_cons_zero, List.set_cons_succ]
  refine wpAnyH_take (i := 7) (oi := { dst := some 10, op := Go.Op.fieldAddr 61 (Go.Operand.tmp 9) 3, type := 0, pos := "world.go:93", after := #[{ on := 6, ground := Go.Ground.data }, { on := 0, ground := Go.Ground.phase }, { on := 1, ground := Go.Ground.phase }, { on := 2, ground := Go.Ground.phase }, { on := 3, ground := Go.Ground.phase }, { on := 4, ground := Go.Ground.phase }, { on := 5, ground := Go.Ground.phase }], guard := none }) (v := ?_) rfl (by kernel_rfl) (by kernel_rfl) (by kernel_rfl) (fun _ _ _ h => h) (Or.inl ⟨by rfl, ?_⟩) hHeld ?_
  rotate_left
  · intro w hSw
    (try dsimp only at hSw)
    go_simp
    all_goals (with_reducible rfl)
  try simp only [Act.put, List.setIfInBounds_toArray, List.set_cons_zero, List.set_cons_succ]
  refine wpAnyH_ready (rs := [8]) (by kernel_rfl) (by simp) ?_
  refine (AllReadyH.cons (o := { dst := none, op := Go.Op.store 30 (Go.Operand.tmp 10) (Go.Operand.tmp 6), type := 0, pos := "world.go:93", after := #[{ on := 7, ground := Go.Ground.data }, { on := 2, ground := Go.Ground.data }, { on := 5, ground := Go.Ground.chain }, { on := 0, ground := Go.Ground.phase }, { on := 1, ground := Go.Ground.phase }, { on := 2, ground := Go.Ground.phase }, { on := 3, ground := Go.Ground.phase }, { on := 4, ground := Go.Ground.phase }, { on := 5, ground := Go.Ground.phase }], guard := none }) rfl (fun K hK => ?_) AllReadyH.nil)
  go_simp
  refine hK.out _ _ (by exact HG.out _ (by repeat (first | with_reducible exact Keeps.refl _ _ | with_reducible exact Keeps.refl _ _ | with_reducible refine Keeps.drew ?_ | with_reducible refine Keeps.drewN ?_ _ | with_reducible refine Keeps.alloc ?_ _ | with_reducible refine Keeps.setCell ?_ (by first | (intro h; simp at h; done) | (intro _; simp; done) | (intro _; simp; omega) | (intro h; simp at h; omega)) _))) (fun hHeld => ?_)
  clear hK K
  try simp only [List.setIfInBounds_toArray, List.set_cons_zero, List.set_cons_succ]
  refine wpAnyH_done (by kernel_rfl) ?_ _
  obtain ⟨X1, hX1⟩ : ∃ X, X = wLast W0 b e := ⟨_, rfl⟩
  unfold wLast at hX1
  rw [← hX1]
  have HX1 := Lib.hid (show X1 = wLast W0 b e from hX1)
  clear hHeld hX1 gfree b7 b8 b9 b10 b11 b12 b13 b14 b15
  rw [← HX1.out] at Hc1 Ht1 Hk1
  have HKX1 := Lib.hid (show Keeps (fun g => g = g3) W0 X1 from Hk1.out.mono (fun g _ hg e => hbg (by rw [← e, hg])))
  have H3f1 := Lib.hid (show g3 ∉ fp1 from fun hm => by
    rcases Ht0.out.grew g3 hm with h9 | h9
    · exact H3fp.out h9
    · omega)
  have hb1 : b < X1.heap.size := Nat.lt_of_lt_of_le hb0 HKX1.out.size
  obtain ⟨Y, hY⟩ : ∃ Y, Y = X1.drew := ⟨_, rfl⟩
  rw [← hY]
  have hxY : Ext X1 Y := by rw [hY]; exact (Keeps.refl _ _).drew
  have HcY := Lib.hid (Hc1.out.ext hxY)
  have HtY := Lib.hid (Ht1.out.ext_r hxY)
  have HKY := Lib.hid (HKX1.out.then_ (Ext.keeps hxY (fun g => g = g3)) (fun g _ hg => hg))
  have hbY : b < Y.heap.size := Nat.lt_of_lt_of_le hb1 hxY.size
  clear hY hxY
  obtain ⟨m, qm, hmb, hmf, hmp, hback⟩ := wld_added (HcY.out.ext ((Keeps.refl _ Y).drew))
  obtain ⟨W2, P2, hm2, hk2, hsz2⟩ := hmp.put Tryz.underlying52 (e.src, e.num) true
  have P2' : (Instr.mapUpdate 52 (.map (some m)) (.agg #[.string e.src, .int .i64 e.num]) (.bool true)).run Tryz.prog Y.drew = .ok () W2 := P2
  obtain ⟨fp2, hc2, ht2⟩ := hback W2 _ hm2 hk2
  have hm3 : g3 ≠ m := fun e9 => H3f1.out (e9 ▸ hmf)
  have hk5 : Keeps (fun g => g = b ∨ g = g3) Y W2 := ((Keeps.refl _ Y).drew).then_ hk2 (fun g _ hg e9 => by rcases hg with rfl | rfl; exact hmb e9.symm; exact hm3 e9)
  have HS := Lib.hid (fun (w' : World) (hk : Keeps (fun g => g = b ∨ g = g3) Y w') => show w'.cell? ⟨b, 16, none⟩ = some (.map (some m)) ∧ w'.cell? ⟨g3, 0, none⟩ = some (.string e.src) ∧ w'.cell? ⟨g3, 1, none⟩ = some (.int .i64 e.num) ∧ w'.cell? ⟨g3, 2, none⟩ = some (.int .i64 e.tick) ∧ w'.cell? ⟨g3, 3, none⟩ = some (.int .i64 e.kind) ∧ w'.cell? ⟨g3, 4, none⟩ = some (.string e.person) ∧ w'.cell? ⟨g3, 5, none⟩ = some (.string e.item) ∧ w'.cell? ⟨g3, 6, none⟩ = some (.int .i64 e.value) ∧ w'.cell? ⟨g3, 7, none⟩ = some (.string e.text) from ⟨(hk.cell (p := ⟨b, 16, none⟩) hbY (.inl rfl)).trans qm, HG.out w' (HKY.out.then_ hk (fun g _ hg => .inr hg))⟩)
  have HcW2 := Lib.hid hc2
  have HtW2 := Lib.hid ((Turned.of_ext ((Keeps.refl _ Y).drew)).trans ht2)
  have HKW2 := Lib.hid (HKY.out.then_ hk5 (fun g _ hg => .inr hg))
  have H3f2 := Lib.hid (show g3 ∉ fp2 from fun hm => by
    rcases ht2.grew g3 hm with h9 | h9
    · exact H3f1.out h9
    · exact absurd h9 (Nat.not_le.2 (Nat.lt_of_lt_of_le h30 HKY.out.size)))
  have hbW2 : b < W2.heap.size := Nat.lt_of_lt_of_le hbY hk5.size
  clear hsz2 P2 hmp hback hm2 hk2 hc2 ht2 qm hmb hmf hm3
  go_upto_region 2 with fail
  refine wp_region_held_drew (S := fun w' => w'.cell? ⟨b, 16, none⟩ = some (.map (some m)) ∧ w'.cell? ⟨g3, 0, none⟩ = some (.string e.src) ∧ w'.cell? ⟨g3, 1, none⟩ = some (.int .i64 e.num) ∧ w'.cell? ⟨g3, 2, none⟩ = some (.int .i64 e.tick) ∧ w'.cell? ⟨g3, 3, none⟩ = some (.int .i64 e.kind) ∧ w'.cell? ⟨g3, 4, none⟩ = some (.string e.person) ∧ w'.cell? ⟨g3, 5, none⟩ = some (.string e.item) ∧ w'.cell? ⟨g3, 6, none⟩ = some (.int .i64 e.value) ∧ w'.cell? ⟨g3, 7, none⟩ = some (.string e.text)) (by kernel_rfl) (by exact HS.out Y.drew ((Keeps.refl _ _).drew)) (fun hHeld => ?_)
  change wpAnyH _ _ _ _ _ _ #[false, false, false, false, false, false, false, false, false, false] _ _
  refine wpAnyH_take (i := 0) (oi := { dst := some 11, op := Go.Op.move (Go.Operand.tmp 0), type := 39, pos := "world.go:94", after := #[], guard := none }) (v := ?_) rfl (by kernel_rfl) (by kernel_rfl) (by kernel_rfl) (fun _ _ _ h => h) (Or.inl ⟨by rfl, ?_⟩) hHeld ?_
  rotate_left
  · intro w hSw
    (try dsimp only at hSw)
    go_simp
    all_goals (with_reducible rfl)
  try simp only [Act.put, List.setIfInBounds_toArray, List.set_cons_zero, List.set_cons_succ]
  refine wpAnyH_take (i := 1) (oi := { dst := some 12, op := Go.Op.nilCheck (Go.Operand.tmp 11), type := 0, pos := "world.go:94", after := #[{ on := 0, ground := Go.Ground.data }], guard := none }) (v := ?_) rfl (by kernel_rfl) (by kernel_rfl) (by kernel_rfl) (fun _ _ _ h => h) (Or.inl ⟨by rfl, ?_⟩) hHeld ?_
  rotate_left
  · intro w hSw
    (try dsimp only at hSw)
    go_simp
    all_goals (with_reducible rfl)
  try simp only [Act.put, List.setIfInBounds_toArray, List.set_cons_zero, List.set_cons_succ]
  refine wpAnyH_take (i := 2) (oi := { dst := some 13, op := Go.Op.fieldAddr 61 (Go.Operand.tmp 12) 4, type := 0, pos := "world.go:94", after := #[{ on := 1, ground := Go.Ground.data }], guard := none }) (v := ?_) rfl (by kernel_rfl) (by kernel_rfl) (by kernel_rfl) (fun _ _ _ h => h) (Or.inl ⟨by rfl, ?_⟩) hHeld ?_
  rotate_left
  · intro w hSw
    (try dsimp only at hSw)
    go_simp
    all_goals (with_reducible rfl)
  try simp only [Act.put, List.setIfInBounds_toArray, List.set_cons_zero, List.set_cons_succ]
  refine wpAnyH_take (i := 3) (oi := { dst := some 14, op := Go.Op.load 52 (Go.Operand.tmp 13), type := 52, pos := "world.go:94", after := #[{ on := 2, ground := Go.Ground.data }], guard := none }) (v := ?_) rfl (by kernel_rfl) (by kernel_rfl) (by kernel_rfl) (fun _ _ _ h => h) (Or.inl ⟨by rfl, ?_⟩) hHeld ?_
  rotate_left
  · intro w hSw
    (try dsimp only at hSw)
    go_simp
    all_goals (with_reducible rfl)
  try simp only [Act.put, List.setIfInBounds_toArray, List.set_cons_zero, List.set_cons_succ]
  refine wpAnyH_take (i := 4) (oi := { dst := some 15, op := Go.Op.fieldAddr 30 (Go.Operand.tmp 3) 0, type := 0, pos := "world.go:94", after := #[], guard := none }) (v := ?_) rfl (by kernel_rfl) (by kernel_rfl) (by kernel_rfl) (fun _ _ _ h => h) (Or.inl ⟨by rfl, ?_⟩) hHeld ?_
  rotate_left
  · intro w hSw
    (try dsimp only at hSw)
    go_simp
    all_goals (with_reducible rfl)
  try simp only [Act.put, List.setIfInBounds_toArray, List.set_cons_zero, List.set_cons_succ]
  refine wpAnyH_take (i := 5) (oi := { dst := some 16, op := Go.Op.load 9 (Go.Operand.tmp 15), type := 9, pos := "world.go:94", after := #[{ on := 4, ground := Go.Ground.data }], guard := none }) (v := ?_) rfl (by kernel_rfl) (by kernel_rfl) (by kernel_rfl) (fun _ _ _ h => h) (Or.inl ⟨by rfl, ?_⟩) hHeld ?_
  rotate_left
  · intro w hSw
    (try dsimp only at hSw)
    go_simp
    all_goals (with_reducible rfl)
  try simp only [Act.put, List.setIfInBounds_toArray, List.set_cons_zero, List.set_cons_succ]
  refine wpAnyH_take (i := 6) (oi := { dst := some 17, op := Go.Op.fieldAddr 30 (Go.Operand.tmp 3) 1, type := 0, pos := "world.go:94", after := #[], guard := none }) (v := ?_) rfl (by kernel_rfl) (by kernel_rfl) (by kernel_rfl) (fun _ _ _ h => h) (Or.inl ⟨by rfl, ?_⟩) hHeld ?_
  rotate_left
  · intro w hSw
    (try dsimp only at hSw)
    go_simp
    all_goals (with_reducible rfl)
  try simp only [Act.put, List.setIfInBounds_toArray, List.set_cons_zero, List.set_cons_succ]
  refine wpAnyH_take (i := 7) (oi := { dst := some 18, op := Go.Op.load 3 (Go.Operand.tmp 17), type := 3, pos := "world.go:94", after := #[{ on := 6, ground := Go.Ground.data }], guard := none }) (v := ?_) rfl (by kernel_rfl) (by kernel_rfl) (by kernel_rfl) (fun _ _ _ h => h) (Or.inl ⟨by rfl, ?_⟩) hHeld ?_
  rotate_left
  · intro w hSw
    (try dsimp only at hSw)
    go_simp
    all_goals (with_reducible rfl)
  try simp only [Act.put, List.setIfInBounds_toArray, List.set_cons_zero, List.set_cons_succ]
  refine wpAnyH_take (i := 8) (oi := { dst := some 19, op := Go.Op.build 88 #[(0, Go.Operand.tmp 16), (1, Go.Operand.tmp 18)], type := 88, pos := "world.go:94", after := #[{ on := 5, ground := Go.Ground.data }, { on := 7, ground := Go.Ground.data }], guard := none }) (v := ?_) rfl (by kernel_rfl) (by kernel_rfl) (by kernel_rfl) (fun _ _ _ h => h) (Or.inl ⟨by rfl, ?_⟩) hHeld ?_
  rotate_left
  · intro w hSw
    (try dsimp only at hSw)
    go_simp
    all_goals (with_reducible rfl)
  try simp only [Act.put, List.setIfInBounds_toArray, List.set_cons_zero, List.set_cons_succ]
  refine wpAnyH_ready (rs := [9]) (by kernel_rfl) (by simp) ?_
  refine (AllReadyH.cons (o := { dst := none, op := Go.Op.mapUpdate 52 (Go.Operand.tmp 14) (Go.Operand.tmp 19) (Go.Operand.const (Go.Value.bool true)), type := 0, pos := "world.go:94", after := #[{ on := 3, ground := Go.Ground.data }, { on := 8, ground := Go.Ground.data }, { on := 0, ground := Go.Ground.phase }, { on := 1, ground := Go.Ground.phase }, { on := 2, ground := Go.Ground.phase }, { on := 3, ground := Go.Ground.phase }, { on := 4, ground := Go.Ground.phase }, { on := 5, ground := Go.Ground.phase }, { on := 6, ground := Go.Ground.phase }, { on := 7, ground := Go.Ground.phase }, { on := 8, ground := Go.Ground.phase }], guard := none }) rfl (fun K hK => ?_) AllReadyH.nil)
  go_simp
  refine hK.out _ _ (by exact HS.out _ (by repeat (first | with_reducible exact hk5 | with_reducible exact Keeps.refl _ _ | with_reducible refine Keeps.drew ?_ | with_reducible refine Keeps.drewN ?_ _ | with_reducible refine Keeps.alloc ?_ _ | with_reducible refine Keeps.setCell ?_ (by first | (intro h; simp at h; done) | (intro _; simp; done) | (intro _; simp; omega) | (intro h; simp at h; omega)) _))) (fun hHeld => ?_)
  clear hK K
  try simp only [List.setIfInBounds_toArray, List.set_cons_zero, List.set_cons_succ]
  refine wpAnyH_done (by kernel_rfl) ?_ _
  clear hHeld P2' hk5 HS
  obtain ⟨v, fs, qv, hrow, hsub, hbf, hback⟩ := wld_events HcW2.out
  obtain ⟨A0, c0, hv⟩ := hrow.form
  subst hv
  obtain ⟨l, hl⟩ : ∃ l, l = W.events := ⟨_, rfl⟩
  have hrow' : RowAt evR 30 W2 (.slice A0 l.length c0) fs l := by rw [hl]; exact hrow
  have qv' : W2.cell? ⟨b, 6, none⟩ = some (.slice A0 l.length c0) := by rw [hl]; exact qv
  have Hlen := Lib.hid (show l.length ≤ 1048576 by rw [hl]; exact hlen)
  have hback' : ∀ (X : World) (v' : Value) (fs' : List Nat) (l' : List Ev), RowAt evR 30 X v' fs' l' → Turned ((Value.slice A0 l.length c0).ownBlock.toList ++ fs) (v'.ownBlock.toList ++ fs') W2 X → ∃ fp', WldAt P (X.setCell ⟨b, 6, none⟩ v') b fp' { W with any := true, last := e, added := putM (fun a b : Idt => a.1 == b.1 && a.2 == b.2) W.added (e.src, e.num) true, events := l' } ∧ Turned fp2 fp' W2 (X.setCell ⟨b, 6, none⟩ v') := by rw [hl]; exact hback
  have hsub' : ∀ g ∈ (Value.slice A0 l.length c0).ownBlock.toList ++ fs, g ∈ fp2 := by rw [hl]; exact hsub
  have hbf' : b ∉ (Value.slice A0 l.length c0).ownBlock.toList ++ fs := by rw [hl]; exact hbf
  have Hfree := Lib.hid (fun (g : Nat) (hg : g = b ∨ g = g3) => show g ∉ (Value.slice A0 l.length c0).ownBlock.toList ++ fs by rcases hg with rfl | rfl; exact hbf'; exact fun hm => H3f2.out (hsub' _ hm))
  obtain ⟨h2, f2, hbz2, _⟩ := BoxAt.focus HcW2.out
  have HbW2 := Lib.hid hbz2
  have Hrow := Lib.hid hrow'
  have Hback := Lib.hid hback'
  have Hl := Lib.hid hl
  obtain ⟨i0, hi0, hy0, hy1, hy2⟩ := info_of3 info_apiE
  have HG2 := Lib.hid (fun (w' : World) (hk : Keeps (fun g => g = g3) W2 w') => show w'.cell? ⟨g3, 0, none⟩ = some (.string e.src) ∧ w'.cell? ⟨g3, 1, none⟩ = some (.int .i64 e.num) ∧ w'.cell? ⟨g3, 2, none⟩ = some (.int .i64 e.tick) ∧ w'.cell? ⟨g3, 3, none⟩ = some (.int .i64 e.kind) ∧ w'.cell? ⟨g3, 4, none⟩ = some (.string e.person) ∧ w'.cell? ⟨g3, 5, none⟩ = some (.string e.item) ∧ w'.cell? ⟨g3, 6, none⟩ = some (.int .i64 e.value) ∧ w'.cell? ⟨g3, 7, none⟩ = some (.string e.text) from HG.out w' (HKW2.out.then_ hk (fun g _ hg => hg)))
  clear hrow hrow' qv hback hback' hsub hsub' hbf hbf' hbz2 hl hlen
  have hlen := Hlen.out
  go_upto_region 3 with fail
  refine wp_region_held_drew (S := fun w' => w'.cell? ⟨g3, 0, none⟩ = some (.string e.src) ∧ w'.cell? ⟨g3, 1, none⟩ = some (.int .i64 e.num) ∧ w'.cell? ⟨g3, 2, none⟩ = some (.int .i64 e.tick) ∧ w'.cell? ⟨g3, 3, none⟩ = some (.int .i64 e.kind) ∧ w'.cell? ⟨g3, 4, none⟩ = some (.string e.person) ∧ w'.cell? ⟨g3, 5, none⟩ = some (.string e.item) ∧ w'.cell? ⟨g3, 6, none⟩ = some (.int .i64 e.value) ∧ w'.cell? ⟨g3, 7, none⟩ = some (.string e.text)) (by kernel_rfl) (by exact HG2.out W2.drew ((Keeps.refl _ _).drew)) (fun hHeld => ?_)
  change wpAnyH _ _ _ _ _ _ #[false, false, false, false, false, false, false, false, false, false, false] _ _
  refine wpAnyH_take (i := 0) (oi := { dst := some 20, op := Go.Op.move (Go.Operand.tmp 0), type := 39, pos := "world.go:95", after := #[], guard := none }) (v := ?_) rfl (by kernel_rfl) (by kernel_rfl) (by kernel_rfl) (fun _ _ _ h => h) (Or.inl ⟨by rfl, ?_⟩) hHeld ?_
  rotate_left
  · intro w hSw
    (try dsimp only at hSw)
    go_simp
    all_goals (with_reducible rfl)
  try simp only [Act.put, List.setIfInBounds_toArray, List.set_cons_zero, List.set_cons_succ]
  refine wpAnyH_take (i := 1) (oi := { dst := some 21, op := Go.Op.move (Go.Operand.tmp 0), type := 39, pos := "world.go:95", after := #[], guard := none }) (v := ?_) rfl (by kernel_rfl) (by kernel_rfl) (by kernel_rfl) (fun _ _ _ h => h) (Or.inl ⟨by rfl, ?_⟩) hHeld ?_
  rotate_left
  · intro w hSw
    (try dsimp only at hSw)
    go_simp
    all_goals (with_reducible rfl)
  try simp only [Act.put, List.setIfInBounds_toArray, List.set_cons_zero, List.set_cons_succ]
  refine wpAnyH_take (i := 2) (oi := { dst := some 22, op := Go.Op.nilCheck (Go.Operand.tmp 21), type := 0, pos := "world.go:95", after := #[{ on := 1, ground := Go.Ground.data }], guard := none }) (v := ?_) rfl (by kernel_rfl) (by kernel_rfl) (by kernel_rfl) (fun _ _ _ h => h) (Or.inl ⟨by rfl, ?_⟩) hHeld ?_
  rotate_left
  · intro w hSw
    (try dsimp only at hSw)
    go_simp
    all_goals (with_reducible rfl)
  try simp only [Act.put, List.setIfInBounds_toArray, List.set_cons_zero, List.set_cons_succ]
  refine wpAnyH_take (i := 3) (oi := { dst := some 23, op := Go.Op.fieldAddr 61 (Go.Operand.tmp 22) 1, type := 0, pos := "world.go:95", after := #[{ on := 2, ground := Go.Ground.data }], guard := none }) (v := ?_) rfl (by kernel_rfl) (by kernel_rfl) (by kernel_rfl) (fun _ _ _ h => h) (Or.inl ⟨by rfl, ?_⟩) hHeld ?_
  rotate_left
  · intro w hSw
    (try dsimp only at hSw)
    go_simp
    all_goals (with_reducible rfl)
  try simp only [Act.put, List.setIfInBounds_toArray, List.set_cons_zero, List.set_cons_succ]
  refine wpAnyH_take (i := 5) (oi := { dst := some 25, op := Go.Op.load 30 (Go.Operand.tmp 3), type := 30, pos := "world.go:95", after := #[], guard := none }) (v := ?_) rfl (by kernel_rfl) (by kernel_rfl) (by kernel_rfl) (fun _ _ _ h => h) (Or.inl ⟨by rfl, ?_⟩) hHeld ?_
  rotate_left
  · intro w hSw
    (try dsimp only at hSw)
    go_simp
    all_goals (with_reducible rfl)
  try simp only [Act.put, List.setIfInBounds_toArray, List.set_cons_zero, List.set_cons_succ]
  refine meet_ (G := ?G) (fun hMeet => ?main) ?last
  case main =>
    refine wpAnyH_ready (rs := [4, 6]) (by kernel_rfl) (by simp) ?_
    refine (AllReadyH.cons (o := { dst := some 24, op := Go.Op.load 22 (Go.Operand.tmp 23), type := 22, pos := "world.go:95", after := #[{ on := 3, ground := Go.Ground.data }], guard := none }) rfl (fun K hK => ?_) (AllReadyH.cons (o := { dst := some 26, op := Go.Op.buildSlice 22 1 #[(0, Go.Operand.tmp 25)], type := 22, pos := "world.go:95", after := #[{ on := 5, ground := Go.Ground.data }], guard := none }) rfl (fun K hK => ?_) AllReadyH.nil))
    · go_simp
      refine hK.out _ _ (by exact HG2.out _ (by repeat (first | with_reducible exact hk9 | with_reducible exact Keeps.refl _ _ | with_reducible refine Keeps.drew ?_ | with_reducible refine Keeps.drewN ?_ _ | with_reducible refine Keeps.alloc ?_ _ | with_reducible refine Keeps.setCell ?_ (by first | (intro h; simp at h; done) | (intro _; simp; done) | (intro _; simp; omega) | (intro h; simp at h; omega)) _))) (fun hHeld => ?_)
      clear hK K
      try simp only [List.setIfInBounds_toArray, List.set_cons_zero, List.set_cons_succ]
      refine wpAnyH_ready (rs := [6]) (by kernel_rfl) (by simp) ?_
      refine (AllReadyH.cons (o := { dst := some 26, op := Go.Op.buildSlice 22 1 #[(0, Go.Operand.tmp 25)], type := 22, pos := "world.go:95", after := #[{ on := 5, ground := Go.Ground.data }], guard := none }) rfl (fun K hK => ?_) AllReadyH.nil)
      · go_simp
        refine hK.out _ _ (by exact HG2.out _ (by repeat (first | with_reducible exact hk9 | with_reducible exact Keeps.refl _ _ | with_reducible refine Keeps.drew ?_ | with_reducible refine Keeps.drewN ?_ _ | with_reducible refine Keeps.alloc ?_ _ | with_reducible refine Keeps.setCell ?_ (by first | (intro h; simp at h; done) | (intro _; simp; done) | (intro _; simp; omega) | (intro h; simp at h; omega)) _))) (fun hHeld => ?_)
        clear hK K
        try simp only [List.setIfInBounds_toArray, List.set_cons_zero, List.set_cons_succ]
        exact hMeet
    · go_simp
      refine hK.out _ _ (by exact HG2.out _ (by repeat (first | with_reducible exact hk9 | with_reducible exact Keeps.refl _ _ | with_reducible refine Keeps.drew ?_ | with_reducible refine Keeps.drewN ?_ _ | with_reducible refine Keeps.alloc ?_ _ | with_reducible refine Keeps.setCell ?_ (by first | (intro h; simp at h; done) | (intro _; simp; done) | (intro _; simp; omega) | (intro h; simp at h; omega)) _))) (fun hHeld => ?_)
      clear hK K
      try simp only [List.setIfInBounds_toArray, List.set_cons_zero, List.set_cons_succ]
      refine wpAnyH_ready (rs := [4]) (by kernel_rfl) (by simp) ?_
      refine (AllReadyH.cons (o := { dst := some 24, op := Go.Op.load 22 (Go.Operand.tmp 23), type := 22, pos := "world.go:95", after := #[{ on := 3, ground := Go.Ground.data }], guard := none }) rfl (fun K hK => ?_) AllReadyH.nil)
      · go_simp
        refine hK.out _ _ (by exact HG2.out _ (by repeat (first | with_reducible exact hk9 | with_reducible exact Keeps.refl _ _ | with_reducible refine Keeps.drew ?_ | with_reducible refine Keeps.drewN ?_ _ | with_reducible refine Keeps.alloc ?_ _ | with_reducible refine Keeps.setCell ?_ (by first | (intro h; simp at h; done) | (intro _; simp; done) | (intro _; simp; omega) | (intro h; simp at h; omega)) _))) (fun hHeld => ?_)
        clear hK K
        try simp only [List.setIfInBounds_toArray, List.set_cons_zero, List.set_cons_succ]
        exact hMeet
  case last =>
    refine wpAnyH_ready (rs := [7]) (by kernel_rfl) (by simp) ?_
    refine (AllReadyH.cons (o := { dst := some 27, op := Go.Op.call { callee := Go.Callee.builtin Go.Builtin.append, args := #[Go.Operand.tmp 24, Go.Operand.tmp 26], argTypes := #[22, 22] }, type := 22, pos := "world.go:95", after := #[{ on := 4, ground := Go.Ground.data }, { on := 6, ground := Go.Ground.data }], guard := none }) rfl (fun K hK => ?_) AllReadyH.nil)
    refine step_append_Own (ok := fun g => g ∈ fs) (R := evR) _ (by rfl) (.tmp 24) (.tmp 26) 22 (by rfl) 30 i0 _ 96 0 Tryz.underlying22 hi0 hy0 hy1 hy2 rfl (by decide) (by rfl) (Hrow.out.own.ext (by repeat (first | with_reducible exact Keeps.refl _ _ | with_reducible exact Keeps.refl _ _ | with_reducible refine Keeps.drew ?_ | with_reducible refine Keeps.drewN ?_ _ | with_reducible refine Keeps.alloc ?_ _ | with_reducible refine Keeps.setCell ?_ (by first | (intro h; simp at h; done) | (intro _; simp; done) | (intro _; simp; omega) | (intro h; simp at h; omega)) _))) _ 1 1 [e] (by rfl) (Srcs.one_new rfl (blk_new _ _) rfl) (by omega) (by decide) (Nat.zero_le _) ?_; intro A5 c5 w5 hown5 hg5 hat5; obtain ⟨hrow5, ht5⟩ := RowAt.app Hrow.out (by repeat (first | with_reducible exact Keeps.refl _ _ | with_reducible exact Keeps.refl _ _ | with_reducible refine Keeps.drew ?_ | with_reducible refine Keeps.drewN ?_ _ | with_reducible refine Keeps.alloc ?_ _ | with_reducible refine Keeps.setCell ?_ (by first | (intro h; simp at h; done) | (intro _; simp; done) | (intro _; simp; omega) | (intro h; simp at h; omega)) _)) (hown5.mono (ok' := fun g => g ∈ fs ++ []) (fun k _ h => by simpa using h)) hg5 hat5 (by simp) List.nodup_nil; have hk5 : Keeps (fun g => g = b ∨ g = g3) W2 w5 := ht5.keeps.mono (fun g _ hg => Hfree.out g hg); have hb5 := hk5.blk HbW2.out (.inl rfl); have b6 := blk_cell hb5 6 rfl; have gfree := blk_free hb5; obtain ⟨fp3, hc3, ht3⟩ := Hback.out w5 _ _ _ hrow5 ht5; have hgb : g3 ≠ b := fun e9 => hbg e9.symm; have hk9 : Keeps (fun g => g = g3) W2 w5 := hk5.mono (fun g _ hg => .inr hg)
    refine hK.out _ _ (by exact HG2.out _ (by repeat (first | with_reducible exact hk9 | with_reducible exact Keeps.refl _ _ | with_reducible refine Keeps.drew ?_ | with_reducible refine Keeps.drewN ?_ _ | with_reducible refine Keeps.alloc ?_ _ | with_reducible refine Keeps.setCell ?_ (by first | (intro h; simp at h; done) | (intro _; simp; done) | (intro _; simp; omega) | (intro h; simp at h; omega)) _))) (fun hHeld => ?_)
    clear hK K
    try simp only [Act.put, List.setIfInBounds_toArray, List.set_cons_zero, List.set_cons_succ]
    refine wpAnyH_take (i := 8) (oi := { dst := some 28, op := Go.Op.nilCheck (Go.Operand.tmp 20), type := 0, pos := "world.go:95", after := #[{ on := 0, ground := Go.Ground.data }, { on := 0, ground := Go.Ground.phase }, { on := 1, ground := Go.Ground.phase }, { on := 2, ground := Go.Ground.phase }, { on := 3, ground := Go.Ground.phase }, { on := 4, ground := Go.Ground.phase }, { on := 5, ground := Go.Ground.phase }, { on := 6, ground := Go.Ground.phase }, { on := 7, ground := Go.Ground.phase }], guard := none }) (v := ?_) rfl (by kernel_rfl) (by kernel_rfl) (by kernel_rfl) (fun _ _ _ h => h) (Or.inl ⟨by rfl, ?_⟩) hHeld ?_
    rotate_left
    · intro w hSw
      (try dsimp only at hSw)
      go_simp
      all_goals (with_reducible rfl)
    try simp only [Act.put, List.setIfInBounds_toArray, List.set_cons_zero, List.set_cons_succ]
    refine wpAnyH_take (i := 9) (oi := { dst := some 29, op := Go.Op.fieldAddr 61 (Go.Operand.tmp 28) 1, type := 0, pos := "world.go:95", after := #[{ on := 8, ground := Go.Ground.data }, { on := 0, ground := Go.Ground.phase }, { on := 1, ground := Go.Ground.phase }, { on := 2, ground := Go.Ground.phase }, { on := 3, ground := Go.Ground.phase }, { on := 4, ground := Go.Ground.phase }, { on := 5, ground := Go.Ground.phase }, { on := 6, ground := Go.Ground.phase }, { on := 7, ground := Go.Ground.phase }], guard := none }) (v := ?_) rfl (by kernel_rfl) (by kernel_rfl) (by kernel_rfl) (fun _ _ _ h => h) (Or.inl ⟨by rfl, ?_⟩) hHeld ?_
    rotate_left
    · intro w hSw
      (try dsimp only at hSw)
      go_simp
      all_goals (with_reducible rfl)
    try simp only [Act.put, List.setIfInBounds_toArray, List.set_cons_zero, List.set_cons_succ]
    refine wpAnyH_ready (rs := [10]) (by kernel_rfl) (by simp) ?_
    refine (AllReadyH.cons (o := { dst := none, op := Go.Op.store 22 (Go.Operand.tmp 29) (Go.Operand.tmp 27), type := 0, pos := "world.go:95", after := #[{ on := 9, ground := Go.Ground.data }, { on := 7, ground := Go.Ground.data }, { on := 7, ground := Go.Ground.chain }, { on := 0, ground := Go.Ground.phase }, { on := 1, ground := Go.Ground.phase }, { on := 2, ground := Go.Ground.phase }, { on := 3, ground := Go.Ground.phase }, { on := 4, ground := Go.Ground.phase }, { on := 5, ground := Go.Ground.phase }, { on := 6, ground := Go.Ground.phase }, { on := 7, ground := Go.Ground.phase }], guard := none }) rfl (fun K hK => ?_) AllReadyH.nil)
    go_simp
    refine hK.out _ _ (by exact HG2.out _ (by repeat (first | with_reducible exact hk9 | with_reducible exact Keeps.refl _ _ | with_reducible refine Keeps.drew ?_ | with_reducible refine Keeps.drewN ?_ _ | with_reducible refine Keeps.alloc ?_ _ | with_reducible refine Keeps.setCell ?_ (by first | (intro h; simp at h; done) | (intro _; simp; done) | (intro _; simp; omega) | (intro h; simp at h; omega)) _))) (fun hHeld => ?_)
    clear hK K
    try simp only [List.setIfInBounds_toArray, List.set_cons_zero, List.set_cons_succ]
    refine wpAnyH_done (by kernel_rfl) ?_ _
    obtain ⟨X5, hX5⟩ : ∃ X, X = w5.setCell ⟨b, 6, none⟩ (.slice A5 (l.length + 1) c5) := ⟨_, rfl⟩
    have hc4 : WldAt P X5 b fp3 (wldTake W e) := by have h9 := hc3; rw [hX5]; rw [Hl.out] at h9 ⊢; exact h9
    have ht4 : Turned fp2 fp3 W2 X5 := by have h9 := ht3; rw [hX5]; exact h9
    have h35 : X5.heap[g3]? = some (.cells #[.string e.src, .int .i64 e.num, .int .i64 e.tick, .int .i64 e.kind, .string e.person, .string e.item, .int .i64 e.value, .string e.text] 30) := by rw [hX5]; exact (hk9.blk (HKW2.out.blk Hg3.out rfl) rfl |> fun h => blk_far h hgb _)
    have htt := HtY.out.trans (HtW2.out.trans ht4)
    have hov := htt.over Hx.out Hfr.out
    have HC := Lib.hid (wo_count P n L b fp3 (wldTake W e) e w0 X5 hc4 hov.1 hov.2 Hmx.out Ht.out Hmay.out (take_ok Hok.out) Haf.out Hn.out)
    have Htt := Lib.hid htt
    have q0 : X5.cell? ⟨g3, 0, none⟩ = some (.string e.src) := blk_cell h35 0 rfl
    have q1 : X5.cell? ⟨g3, 1, none⟩ = some (.int .i64 e.num) := blk_cell h35 1 rfl
    have q2 : X5.cell? ⟨g3, 2, none⟩ = some (.int .i64 e.tick) := blk_cell h35 2 rfl
    have q3 : X5.cell? ⟨g3, 3, none⟩ = some (.int .i64 e.kind) := blk_cell h35 3 rfl
    have q4 : X5.cell? ⟨g3, 4, none⟩ = some (.string e.person) := blk_cell h35 4 rfl
    have q5 : X5.cell? ⟨g3, 5, none⟩ = some (.string e.item) := blk_cell h35 5 rfl
    have q6 : X5.cell? ⟨g3, 6, none⟩ = some (.int .i64 e.value) := blk_cell h35 6 rfl
    have q7 : X5.cell? ⟨g3, 7, none⟩ = some (.string e.text) := blk_cell h35 7 rfl
    rw [← hX5]
    clear hHeld hX5 hc4 ht4 h35 htt hov hown5 hg5 hat5 hrow5 ht5 hk5 hb5 b6 gfree hc3 ht3 hgb hk9 qv'
    go_wp2_with (go_at_call 49; refine HC.out.mono ?_; rintro _ X6 ⟨rfl, fp6, hc6, ht6⟩)
    exact ⟨rfl, .tuple #[], by simp [results, Tryz.results24], rfl, fp6, hc6, Htt.out.trans ht6⟩
end Go.Proofs.YtpkkkhgmkndpdaaGreatDoor
namespace Go.Proofs.YtpkkkhgmkndpdaaGreatDoor
open Go Go.RowKit Go.Proofs
attribute [local go_sem ↓] Go.wp_at_zero Go.wp_at_succ
def ev0 : Ev := ⟨⟨#[]⟩, 0, 0, 0, ⟨#[]⟩, ⟨#[]⟩, 0, ⟨#[]⟩⟩
def cat0 : Cat := ⟨false, ev0, []⟩
def crd0 (half : Int) : Crd := ⟨half, 0, ev0, [], [], [], [], [], [], [], []⟩
def dec0 (half : Int) : Dec := ⟨half, 0, []⟩
def pan0 (width : Int) : Pan := ⟨width, 0, [], []⟩
def ses0 (gap : Int) : Ses := ⟨gap, []⟩
def wld0 (P : PrOb) (c : Cfg) : Wld P := ⟨c, [], false, ev0, [], [], cat0, crd0 c.half, dec0 c.half, pan0 c.width, ses0 c.gap, P.nil⟩
theorem cnt0 (P : PrOb) (c : Cfg) (h : CfgOk c) : CntOk 0 none (wld0 P c) where
  cat := ⟨fun _ => List.Pairwise.nil, fun _ => Nat.le_refl _, fun _ _ h => (by cases h), fun _ _ _ _ h => (by cases h), fun _ _ => .inl rfl⟩
  crd := ⟨Nat.le_refl _, fun _ => Nat.le_refl _, fun _ => ⟨Int.le_refl _, Int.le_refl _⟩, fun _ => ⟨Int.le_refl _, Int.le_refl _⟩, fun _ _ => .inl rfl⟩
  dec := fun _ _ => ⟨Int.le_refl _, Int.le_refl _⟩
  deca := Nat.le_refl _
  pan := ⟨h.width.1, h.width.2, fun _ => ⟨Int.le_refl _, Int.le_refl _⟩, fun _ => Nat.le_refl _⟩
  pana := Nat.le_refl _
/-- Two objects, the second one's blocks behind the first one's. -/
theorem pair_parted {η η' α β : Type} {O : Ob η α} {O' : Ob η' β} {w : World} {h : η} {h' : η'} {a : α} {a' : β} {f f' : List Nat} (s : Nat) (hr : O.rep w h f a) (hr' : O'.rep w h' f' a') (hl : ∀ g ∈ f, g < s) (hg : ∀ g ∈ f', s ≤ g) : (pairOb O O').rep w (h, h') (f ++ f') (a, a') :=
  ⟨f, f', hr, hr', rfl, List.nodup_append.2 ⟨O.nd hr, O'.nd hr', fun g h1 y h2 e => by have := hl g h1; have := hg y h2; omega⟩⟩
/-- All that is counted, new, beside a block that holds its places. -/
structure Fresh (P : PrOb) (c : Cfg) (b s : Nat) (w : World) (m18 m19 m20 m21 m22 : Nat) (fp : List Nat) : Prop where
  ex : ∃ f18 f19 f20 f21 f22, CatAt w m18 f18 cat0 ∧ CrdAt w m19 f19 (crd0 c.half) ∧ DecAt w m20 f20 (dec0 c.half) ∧ PanAt w m21 f21 (pan0 c.width) ∧ SesAt w m22 f22 (ses0 c.gap) ∧ fp = f18 ++ (f19 ++ (f20 ++ (f21 ++ (f22 ++ [])))) ∧ fp.Nodup
  b : b ∉ fp
  s : ∀ g ∈ fp, s ≤ g
theorem nd_after {f f' : List Nat} {s t : Nat} (hn : f.Nodup) (hn' : f'.Nodup) (hl : ∀ g ∈ f, g < t) (hg : ∀ g ∈ f', t ≤ g) : (f ++ f').Nodup :=
  have _ := s
  List.nodup_append.2 ⟨hn, hn', fun g h1 y h2 e => by have := hl g h1; have := hg y h2; omega⟩
set_option maxRecDepth 100000 in
set_option maxHeartbeats 4000000 in
theorem wo_clear (P : PrOb) (c : Cfg) (b : Nat) (ve va vf v18 v19 v20 v21 v22 v23 : Value) (an : Bool) (x : Ev) (w : World) (hc : CfgOk c) (hb : w.heap[b]? = some (.cells #[.int .i64 c.half, .int .i64 c.width, .int .i64 c.gap, .int .i64 c.span, .int .i64 c.floor, .int .i64 c.crowd, ve, .bool an, .string x.src, .int .i64 x.num, .int .i64 x.tick, .int .i64 x.kind, .string x.person, .string x.item, .int .i64 x.value, .string x.text, va, vf, v18, v19, v20, v21, v22, v23] 61)) :
    Calls Tryz.prog 43 #[.pointer (some ⟨b, 0, none⟩)] w fun r w' => r = .returned (.tuple #[]) ∧ ∃ m18 m19 m20 m21 m22 fp, w'.heap[b]? = some (.cells #[.int .i64 c.half, .int .i64 c.width, .int .i64 c.gap, .int .i64 c.span, .int .i64 c.floor, .int .i64 c.crowd, ve, .bool an, .string x.src, .int .i64 x.num, .int .i64 x.tick, .int .i64 x.kind, .string x.person, .string x.item, .int .i64 x.value, .string x.text, va, vf, ptrV m18, ptrV m19, ptrV m20, ptrV m21, ptrV m22, .pointer none] 61) ∧ Fresh P c b w.heap.size w' m18 m19 m20 m21 m22 fp ∧ Keeps (fun g => g ≠ b) w w' := by
  have Hb := Lib.hid hb
  have Hcg := Lib.hid hc
  have hbw : b < w.heap.size := (Array.getElem?_eq_some_iff.1 hb).1
  obtain ⟨X0, hX0⟩ : ∃ X, X = w := ⟨_, rfl⟩
  have HbX0 := Lib.hid Hb.out
  rw [← hX0] at HbX0 hbw ⊢
  have HkX0 := Lib.hid (show Keeps (fun g => g ≠ b) X0 X0 from Keeps.refl _ _)
  clear hX0 Hb
  go_enter Tryz.func43, Tryz.ntmps43
  have HN := Lib.hid (cat_New X0)
  have q0 : X0.cell? ⟨b, 0, none⟩ = some (.int .i64 c.half) := blk_cell HbX0.out 0 rfl
  have q1 : X0.cell? ⟨b, 1, none⟩ = some (.int .i64 c.width) := blk_cell HbX0.out 1 rfl
  have q2 : X0.cell? ⟨b, 2, none⟩ = some (.int .i64 c.gap) := blk_cell HbX0.out 2 rfl
  go_upto_region 1 with (go_at_call 66; refine HN.out.mono ?_; rintro _ Y0 ⟨m18, f18, rfl, hc18, hx18, hs18⟩; have hbk := hx18.blk HbX0.out; have qk := blk_cell hbk 18 rfl; have gfree := blk_free hbk; have hbl : b < Y0.heap.size := (Array.getElem?_eq_some_iff.1 hbk).1)
  obtain ⟨X1, hX⟩ : ∃ X, X = Y0.setCell ⟨b, 18, none⟩ (.pointer (some ⟨m18, 0, none⟩)) := ⟨_, rfl⟩
  rw [← hX]
  have h9 := blk_set hbk 18 (.pointer (some ⟨m18, 0, none⟩))
  simp only [List.setIfInBounds_toArray, List.set_cons_zero, List.set_cons_succ] at h9
  rw [← hX] at h9
  have HbX1 := Lib.hid h9
  have hk : Keeps (fun g => g ≠ b) Y0 X1 := by rw [hX]; exact (Keeps.refl _ _).setCell (fun _ hn => hn rfl) _
  have HS0 := Lib.hid ((Ext.keeps hx18 (fun g => g ≠ b)).then_ hk (fun _ _ h => h))
  have HkX1 := Lib.hid (HkX0.out.then_ ((Ext.keeps hx18 _).then_ hk (fun _ _ h => h)) (fun _ _ h => h))
  have hbf : b ∉ f18 := fun hm => by have := hs18 b hm; omega
  have hcx : CatAt X1 m18 f18 _ := hc18.keep (hk.mono (fun g _ hg e => hbf (e ▸ hg)))
  have Hc18 := Lib.hid hcx
  have Hf18 := Lib.hid (show (∀ g ∈ f18, X0.heap.size ≤ g ∧ g < X1.heap.size) from fun g hg => ⟨hs18 g hg, hcx.lt g hg⟩)
  have hz0 : X0.heap.size ≤ X1.heap.size := Nat.le_trans hx18.size hk.size
  have hbw : b < X1.heap.size := by omega
  clear hX h9 hk hbf hcx hc18 hx18 hs18 hbk qk gfree hbl q0 q1 q2 HN
  have HN := Lib.hid (crd_New c.half X1 Hcg.out.half.1 Hcg.out.half.2)
  have q0 : X1.cell? ⟨b, 0, none⟩ = some (.int .i64 c.half) := blk_cell HbX1.out 0 rfl
  have q1 : X1.cell? ⟨b, 1, none⟩ = some (.int .i64 c.width) := blk_cell HbX1.out 1 rfl
  have q2 : X1.cell? ⟨b, 2, none⟩ = some (.int .i64 c.gap) := blk_cell HbX1.out 2 rfl
  go_upto_region 2 with (go_at_call 67; refine HN.out.mono ?_; rintro _ Y1 ⟨m19, f19, rfl, hc19, hx19, hs19⟩; have hbk := hx19.blk HbX1.out; have qk := blk_cell hbk 19 rfl; have gfree := blk_free hbk; have hbl : b < Y1.heap.size := (Array.getElem?_eq_some_iff.1 hbk).1)
  obtain ⟨X2, hX⟩ : ∃ X, X = Y1.setCell ⟨b, 19, none⟩ (.pointer (some ⟨m19, 0, none⟩)) := ⟨_, rfl⟩
  rw [← hX]
  have h9 := blk_set hbk 19 (.pointer (some ⟨m19, 0, none⟩))
  simp only [List.setIfInBounds_toArray, List.set_cons_zero, List.set_cons_succ] at h9
  rw [← hX] at h9
  have HbX2 := Lib.hid h9
  have hk : Keeps (fun g => g ≠ b) Y1 X2 := by rw [hX]; exact (Keeps.refl _ _).setCell (fun _ hn => hn rfl) _
  have HS1 := Lib.hid ((Ext.keeps hx19 (fun g => g ≠ b)).then_ hk (fun _ _ h => h))
  have HkX2 := Lib.hid (HkX1.out.then_ ((Ext.keeps hx19 _).then_ hk (fun _ _ h => h)) (fun _ _ h => h))
  have hbf : b ∉ f19 := fun hm => by have := hs19 b hm; omega
  have hcx : CrdAt X2 m19 f19 _ := hc19.keep (hk.mono (fun g _ hg e => hbf (e ▸ hg)))
  have Hc19 := Lib.hid hcx
  have Hf19 := Lib.hid (show (∀ g ∈ f19, X1.heap.size ≤ g ∧ g < X2.heap.size) from fun g hg => ⟨hs19 g hg, hcx.lt g hg⟩)
  have hz1 : X1.heap.size ≤ X2.heap.size := Nat.le_trans hx19.size hk.size
  have hbw : b < X2.heap.size := by omega
  clear hX h9 hk hbf hcx hc19 hx19 hs19 hbk qk gfree hbl q0 q1 q2 HN
  have HN := Lib.hid (dec_New c.half X2 Hcg.out.half.1 Hcg.out.half.2)
  have q0 : X2.cell? ⟨b, 0, none⟩ = some (.int .i64 c.half) := blk_cell HbX2.out 0 rfl
  have q1 : X2.cell? ⟨b, 1, none⟩ = some (.int .i64 c.width) := blk_cell HbX2.out 1 rfl
  have q2 : X2.cell? ⟨b, 2, none⟩ = some (.int .i64 c.gap) := blk_cell HbX2.out 2 rfl
  go_upto_region 3 with (go_at_call 68; refine HN.out.mono ?_; rintro _ Y2 ⟨m20, f20, rfl, hc20, hx20, hs20⟩; have hbk := hx20.blk HbX2.out; have qk := blk_cell hbk 20 rfl; have gfree := blk_free hbk; have hbl : b < Y2.heap.size := (Array.getElem?_eq_some_iff.1 hbk).1)
  obtain ⟨X3, hX⟩ : ∃ X, X = Y2.setCell ⟨b, 20, none⟩ (.pointer (some ⟨m20, 0, none⟩)) := ⟨_, rfl⟩
  rw [← hX]
  have h9 := blk_set hbk 20 (.pointer (some ⟨m20, 0, none⟩))
  simp only [List.setIfInBounds_toArray, List.set_cons_zero, List.set_cons_succ] at h9
  rw [← hX] at h9
  have HbX3 := Lib.hid h9
  have hk : Keeps (fun g => g ≠ b) Y2 X3 := by rw [hX]; exact (Keeps.refl _ _).setCell (fun _ hn => hn rfl) _
  have HS2 := Lib.hid ((Ext.keeps hx20 (fun g => g ≠ b)).then_ hk (fun _ _ h => h))
  have HkX3 := Lib.hid (HkX2.out.then_ ((Ext.keeps hx20 _).then_ hk (fun _ _ h => h)) (fun _ _ h => h))
  have hbf : b ∉ f20 := fun hm => by have := hs20 b hm; omega
  have hcx : DecAt X3 m20 f20 _ := hc20.keep (hk.mono (fun g _ hg e => hbf (e ▸ hg)))
  have Hc20 := Lib.hid hcx
  have Hf20 := Lib.hid (show (∀ g ∈ f20, X2.heap.size ≤ g ∧ g < X3.heap.size) from fun g hg => ⟨hs20 g hg, hcx.lt g hg⟩)
  have hz2 : X2.heap.size ≤ X3.heap.size := Nat.le_trans hx20.size hk.size
  have hbw : b < X3.heap.size := by omega
  clear hX h9 hk hbf hcx hc20 hx20 hs20 hbk qk gfree hbl q0 q1 q2 HN
  have HN := Lib.hid (pan_New c.width X3 Hcg.out.width.1 Hcg.out.width.2)
  have q0 : X3.cell? ⟨b, 0, none⟩ = some (.int .i64 c.half) := blk_cell HbX3.out 0 rfl
  have q1 : X3.cell? ⟨b, 1, none⟩ = some (.int .i64 c.width) := blk_cell HbX3.out 1 rfl
  have q2 : X3.cell? ⟨b, 2, none⟩ = some (.int .i64 c.gap) := blk_cell HbX3.out 2 rfl
  go_upto_region 4 with (go_at_call 69; refine HN.out.mono ?_; rintro _ Y3 ⟨m21, f21, rfl, hc21, hx21, hs21⟩; have hbk := hx21.blk HbX3.out; have qk := blk_cell hbk 21 rfl; have gfree := blk_free hbk; have hbl : b < Y3.heap.size := (Array.getElem?_eq_some_iff.1 hbk).1)
  obtain ⟨X4, hX⟩ : ∃ X, X = Y3.setCell ⟨b, 21, none⟩ (.pointer (some ⟨m21, 0, none⟩)) := ⟨_, rfl⟩
  rw [← hX]
  have h9 := blk_set hbk 21 (.pointer (some ⟨m21, 0, none⟩))
  simp only [List.setIfInBounds_toArray, List.set_cons_zero, List.set_cons_succ] at h9
  rw [← hX] at h9
  have HbX4 := Lib.hid h9
  have hk : Keeps (fun g => g ≠ b) Y3 X4 := by rw [hX]; exact (Keeps.refl _ _).setCell (fun _ hn => hn rfl) _
  have HS3 := Lib.hid ((Ext.keeps hx21 (fun g => g ≠ b)).then_ hk (fun _ _ h => h))
  have HkX4 := Lib.hid (HkX3.out.then_ ((Ext.keeps hx21 _).then_ hk (fun _ _ h => h)) (fun _ _ h => h))
  have hbf : b ∉ f21 := fun hm => by have := hs21 b hm; omega
  have hcx : PanAt X4 m21 f21 _ := hc21.keep (hk.mono (fun g _ hg e => hbf (e ▸ hg)))
  have Hc21 := Lib.hid hcx
  have Hf21 := Lib.hid (show (∀ g ∈ f21, X3.heap.size ≤ g ∧ g < X4.heap.size) from fun g hg => ⟨hs21 g hg, hcx.lt g hg⟩)
  have hz3 : X3.heap.size ≤ X4.heap.size := Nat.le_trans hx21.size hk.size
  have hbw : b < X4.heap.size := by omega
  clear hX h9 hk hbf hcx hc21 hx21 hs21 hbk qk gfree hbl q0 q1 q2 HN
  have HN := Lib.hid (ses_New c.gap X4 Hcg.out.gap.1 Hcg.out.gap.2)
  have q0 : X4.cell? ⟨b, 0, none⟩ = some (.int .i64 c.half) := blk_cell HbX4.out 0 rfl
  have q1 : X4.cell? ⟨b, 1, none⟩ = some (.int .i64 c.width) := blk_cell HbX4.out 1 rfl
  have q2 : X4.cell? ⟨b, 2, none⟩ = some (.int .i64 c.gap) := blk_cell HbX4.out 2 rfl
  go_upto_region 5 with (go_at_call 70; refine HN.out.mono ?_; rintro _ Y4 ⟨m22, f22, rfl, hc22, hx22, hs22⟩; have hbk := hx22.blk HbX4.out; have qk := blk_cell hbk 22 rfl; have gfree := blk_free hbk; have hbl : b < Y4.heap.size := (Array.getElem?_eq_some_iff.1 hbk).1)
  obtain ⟨X5, hX⟩ : ∃ X, X = Y4.setCell ⟨b, 22, none⟩ (.pointer (some ⟨m22, 0, none⟩)) := ⟨_, rfl⟩
  rw [← hX]
  have h9 := blk_set hbk 22 (.pointer (some ⟨m22, 0, none⟩))
  simp only [List.setIfInBounds_toArray, List.set_cons_zero, List.set_cons_succ] at h9
  rw [← hX] at h9
  have HbX5 := Lib.hid h9
  have hk : Keeps (fun g => g ≠ b) Y4 X5 := by rw [hX]; exact (Keeps.refl _ _).setCell (fun _ hn => hn rfl) _
  have HS4 := Lib.hid ((Ext.keeps hx22 (fun g => g ≠ b)).then_ hk (fun _ _ h => h))
  have HkX5 := Lib.hid (HkX4.out.then_ ((Ext.keeps hx22 _).then_ hk (fun _ _ h => h)) (fun _ _ h => h))
  have hbf : b ∉ f22 := fun hm => by have := hs22 b hm; omega
  have hcx : SesAt X5 m22 f22 _ := hc22.keep (hk.mono (fun g _ hg e => hbf (e ▸ hg)))
  have Hc22 := Lib.hid hcx
  have Hf22 := Lib.hid (show (∀ g ∈ f22, X4.heap.size ≤ g ∧ g < X5.heap.size) from fun g hg => ⟨hs22 g hg, hcx.lt g hg⟩)
  have hz4 : X4.heap.size ≤ X5.heap.size := Nat.le_trans hx22.size hk.size
  have hbw : b < X5.heap.size := by omega
  clear hX h9 hk hbf hcx hc22 hx22 hs22 hbk qk gfree hbl q0 q1 q2 HN
  have q23 : X5.cell? ⟨b, 23, none⟩ = some v23 := blk_cell HbX5.out 23 rfl
  have gfree := blk_free HbX5.out
  go_wp2_with fail
  have HB18 : ∀ g ∈ f18, g ≠ b := fun g hg e => by have := (Hf18.out g hg).1; omega
  have HB19 : ∀ g ∈ f19, g ≠ b := fun g hg e => by have := (Hf19.out g hg).1; omega
  have HB20 : ∀ g ∈ f20, g ≠ b := fun g hg e => by have := (Hf20.out g hg).1; omega
  have HB21 : ∀ g ∈ f21, g ≠ b := fun g hg e => by have := (Hf21.out g hg).1; omega
  have HB22 : ∀ g ∈ f22, g ≠ b := fun g hg e => by have := (Hf22.out g hg).1; omega
  have HK5 : Keeps (fun g => g ≠ b) X5 X5 := Keeps.refl _ _
  have HK4 : Keeps (fun g => g ≠ b) X4 X5 := HS4.out.then_ HK5 (fun _ _ h => h)
  have HK3 : Keeps (fun g => g ≠ b) X3 X5 := HS3.out.then_ HK4 (fun _ _ h => h)
  have HK2 : Keeps (fun g => g ≠ b) X2 X5 := HS2.out.then_ HK3 (fun _ _ h => h)
  have HK1 : Keeps (fun g => g ≠ b) X1 X5 := HS1.out.then_ HK2 (fun _ _ h => h)
  have HND : (f18 ++ (f19 ++ (f20 ++ (f21 ++ (f22 ++ []))))).Nodup := by
    have a4 := nd_after (s := X4.heap.size) ((boxOb _ _ _ _).nd Hc22.out) List.nodup_nil (fun g hg => (Hf22.out g hg).2) (t := X5.heap.size) (fun g hg => by cases hg)
    have b4 : ∀ g ∈ f22 ++ [], X4.heap.size ≤ g := fun g hg => by simp at hg; exact (Hf22.out g hg).1
    have a3 := nd_after (s := X3.heap.size) ((boxOb _ _ _ _).nd Hc21.out) a4 (fun g hg => (Hf21.out g hg).2) b4
    have b3 : ∀ g ∈ f21 ++ (f22 ++ []), X3.heap.size ≤ g := fun g hg => by rcases List.mem_append.1 hg with h | h; exact (Hf21.out g h).1; exact Nat.le_trans hz3 (b4 g h)
    have a2 := nd_after (s := X2.heap.size) ((boxOb _ _ _ _).nd Hc20.out) a3 (fun g hg => (Hf20.out g hg).2) b3
    have b2 : ∀ g ∈ f20 ++ (f21 ++ (f22 ++ [])), X2.heap.size ≤ g := fun g hg => by rcases List.mem_append.1 hg with h | h; exact (Hf20.out g h).1; exact Nat.le_trans hz2 (b3 g h)
    have a1 := nd_after (s := X1.heap.size) ((boxOb _ _ _ _).nd Hc19.out) a2 (fun g hg => (Hf19.out g hg).2) b2
    have b1 : ∀ g ∈ f19 ++ (f20 ++ (f21 ++ (f22 ++ []))), X1.heap.size ≤ g := fun g hg => by rcases List.mem_append.1 hg with h | h; exact (Hf19.out g h).1; exact Nat.le_trans hz1 (b2 g h)
    exact nd_after (s := X0.heap.size) ((boxOb _ _ _ _).nd Hc18.out) a1 (fun g hg => (Hf18.out g hg).2) b1
  have HSA : ∀ g ∈ f18 ++ (f19 ++ (f20 ++ (f21 ++ (f22 ++ [])))), X0.heap.size ≤ g := fun g hg => by
    simp only [List.mem_append, List.not_mem_nil, or_false] at hg
    rcases hg with h | h | h | h | h
    · exact (Hf18.out g h).1
    · have := (Hf19.out g h).1; omega
    · have := (Hf20.out g h).1; omega
    · have := (Hf21.out g h).1; omega
    · have := (Hf22.out g h).1; omega
  have HBA : ∀ g ∈ f18 ++ (f19 ++ (f20 ++ (f21 ++ (f22 ++ [])))), g ≠ b := fun g hg e => by have := HSA g hg; omega
  refine ⟨rfl, .tuple #[], by simp [results, Tryz.results43], rfl, m18, m19, m20, m21, m22, _, ?_, ⟨⟨f18, f19, f20, f21, f22, ?_, ?_, ?_, ?_, ?_, rfl, ?_⟩, ?_, ?_⟩, HkX5.out.setCell (fun _ hn => hn rfl) _⟩
  · have h9 := blk_set HbX5.out 23 (.pointer none)
    simp only [List.setIfInBounds_toArray, List.set_cons_zero, List.set_cons_succ] at h9
    exact h9
  · exact Hc18.out.keep (((HK1).mono (fun g _ hg => HB18 g hg)).setCell (fun hl hg => HB18 b hg rfl) _)
  · exact Hc19.out.keep (((HK2).mono (fun g _ hg => HB19 g hg)).setCell (fun hl hg => HB19 b hg rfl) _)
  · exact Hc20.out.keep (((HK3).mono (fun g _ hg => HB20 g hg)).setCell (fun hl hg => HB20 b hg rfl) _)
  · exact Hc21.out.keep (((HK4).mono (fun g _ hg => HB21 g hg)).setCell (fun hl hg => HB21 b hg rfl) _)
  · exact Hc22.out.keep (((HK5).mono (fun g _ hg => HB22 g hg)).setCell (fun hl hg => HB22 b hg rfl) _)
  · exact HND
  · exact fun hm => HBA b hm rfl
  · exact HSA
set_option maxRecDepth 100000 in
set_option maxHeartbeats 4000000 in
theorem wo_New (P : PrOb) (c : Cfg) (w : World) (hc : CfgOk c) :
    Calls Tryz.prog 21 #[.agg #[.int .i64 c.half, .int .i64 c.width, .int .i64 c.gap, .int .i64 c.span, .int .i64 c.floor, .int .i64 c.crowd]] w fun r w' => ∃ b fp, r = .returned (.tuple #[.pointer (some ⟨b, 0, none⟩), .int .i64 0]) ∧ WldAt P w' b fp (wld0 P c) ∧ Ext w w' ∧ ∀ g ∈ fp, w.heap.size ≤ g := by
  have hmm := @run_makeMap Tryz.prog
  have Hcg := Lib.hid hc
  obtain ⟨W0, hW0⟩ : ∃ X, X = w.alloc (.cells #[.int .i64 c.half, .int .i64 c.width, .int .i64 c.gap, .int .i64 c.span, .int .i64 c.floor, .int .i64 c.crowd] 44) := ⟨_, rfl⟩
  obtain ⟨gc, hgc⟩ : ∃ g, g = w.heap.size := ⟨_, rfl⟩
  have hgb0 : W0.heap[gc]? = some (.cells #[.int .i64 c.half, .int .i64 c.width, .int .i64 c.gap, .int .i64 c.span, .int .i64 c.floor, .int .i64 c.crowd] 44) := by rw [hW0, hgc]; exact blk_new _ _
  have Hx0 := Lib.hid (show Ext w W0 by rw [hW0]; exact (Keeps.refl _ _).alloc _)
  have Hgb := Lib.hid hgb0
  have q0 := blk_cell hgb0 0 rfl
  have q1 := blk_cell hgb0 1 rfl
  have q2 := blk_cell hgb0 2 rfl
  have q3 := blk_cell hgb0 3 rfl
  have q4 := blk_cell hgb0 4 rfl
  have q5 := blk_cell hgb0 5 rfl
  have HM := Lib.hid (wo_May_yes c W0 hc)
  clear hgb0 hc
  go_enter Tryz.func21, Tryz.ntmps21
  go_upto_region 1 with fail
  rw [← hW0, ← hgc]
  clear hW0 hgc
  go_upto_region 3 with (go_at_call 42; refine HM.out.mono ?_; rintro _ X ⟨rfl, hx⟩; have Hx := Lib.hid (Hx0.out.trans hx); have hgX := hx.blk Hgb.out)
  clear q0 q1 q2 q3 q4 q5
  have q0 := blk_cell hgX 0 rfl
  have q1 := blk_cell hgX 1 rfl
  have q2 := blk_cell hgX 2 rfl
  have q3 := blk_cell hgX 3 rfl
  have q4 := blk_cell hgX 4 rfl
  have q5 := blk_cell hgX 5 rfl
  clear hgX hx
  go_upto_region 4 with fail
  obtain ⟨Y, hY⟩ : ∃ Y, Y = ((X.alloc (.map #[] 0)).alloc (.map #[] 0)).alloc (.cells #[.int .i64 c.half, .int .i64 c.width, .int .i64 c.gap, .int .i64 c.span, .int .i64 c.floor, .int .i64 c.crowd, .slice none 0 0, .bool false, .string ⟨#[]⟩, .int .i64 0, .int .i64 0, .int .i64 0, .string ⟨#[]⟩, .string ⟨#[]⟩, .int .i64 0, .string ⟨#[]⟩, .map (some X.heap.size), .map (some (X.heap.size + 1)), .pointer none, .pointer none, .pointer none, .pointer none, .pointer none, .pointer none] 61) := ⟨_, rfl⟩
  have hbY : Y.heap[X.heap.size + 1 + 1]? = some (.cells #[.int .i64 c.half, .int .i64 c.width, .int .i64 c.gap, .int .i64 c.span, .int .i64 c.floor, .int .i64 c.crowd, .slice none 0 0, .bool false, .string ⟨#[]⟩, .int .i64 0, .int .i64 0, .int .i64 0, .string ⟨#[]⟩, .string ⟨#[]⟩, .int .i64 0, .string ⟨#[]⟩, .map (some X.heap.size), .map (some (X.heap.size + 1)), .pointer none, .pointer none, .pointer none, .pointer none, .pointer none, .pointer none] 61) := by rw [hY]; exact blk_at _ _ (by simp)
  have hm1 : Mp (idK idT_world) boolV Y X.heap.size ([] : List (Idt × Bool)) := by rw [hY]; exact mp_at (w := X) (idK idT_world) boolV rfl (((Keeps.refl _ _).alloc _).alloc _)
  have hm2 : Mp (strK (P := Tryz.prog) (kt := 9) Tryz.underlying9) boolV Y (X.heap.size + 1) ([] : List (ByteArray × Bool)) := by rw [hY]; exact mp_at (w := X.alloc (.map #[] 0)) (strK (P := Tryz.prog) (kt := 9) Tryz.underlying9) boolV (by simp) ((Keeps.refl _ _).alloc _)
  have hyl : Y.heap.size = X.heap.size + 1 + 1 + 1 := by rw [hY]; simp
  have HxY := Lib.hid (show Ext w Y by rw [hY]; exact ((Hx.out.alloc _).alloc _).alloc _)
  have HC := Lib.hid (wo_clear P c (X.heap.size + 1 + 1) (.slice none 0 0) (.map (some X.heap.size)) (.map (some (X.heap.size + 1))) (.pointer none) (.pointer none) (.pointer none) (.pointer none) (.pointer none) (.pointer none) false ev0 Y Hcg.out hbY)
  have Hm1 := Lib.hid hm1
  have Hm2 := Lib.hid hm2
  have Hyl := Lib.hid hyl
  have hxs := Hx.out.size
  rw [← hY]
  clear hY hbY hm1 hm2 hyl q0 q1 q2 q3 q4 q5
  go_wp2_with (go_at_call 43; refine HC.out.mono ?_; rintro _ Z ⟨rfl, m18, m19, m20, m21, m22, fp, hbZ, hfr, hkZ⟩; have HbZ := Lib.hid hbZ; have Hfr := Lib.hid hfr; have HkZ := Lib.hid hkZ; clear hbZ hfr hkZ)
  refine bodyPost_ret (v := .tuple #[.pointer (some ⟨X.heap.size + 1 + 1, 0, none⟩), .int .i64 0]) (by simp [results, Tryz.results21, go_sem]) rfl ?_
  obtain ⟨⟨f18, f19, f20, f21, f22, h18, h19, h20, h21, h22, rfl, hnd⟩, hbF, hsF⟩ := Hfr.out
  have hyl := Hyl.out
  have n19 := (List.nodup_append.1 hnd).2.1
  have n20 := (List.nodup_append.1 n19).2.1
  have n21 := (List.nodup_append.1 n20).2.1
  have n22 := (List.nodup_append.1 n21).2.1
  have nm2 : ([X.heap.size + 1] ++ (f18 ++ (f19 ++ (f20 ++ (f21 ++ (f22 ++ [])))))).Nodup := nd_after (s := 0) (t := Y.heap.size) (by simp) hnd (fun g hg => by simp at hg; omega) hsF
  have nm1 : ([X.heap.size] ++ ([X.heap.size + 1] ++ (f18 ++ (f19 ++ (f20 ++ (f21 ++ (f22 ++ []))))))).Nodup := nd_after (s := 0) (t := X.heap.size + 1) (by simp) nm2 (fun g hg => by simp at hg; omega) (fun g hg => by
    rcases List.mem_append.1 hg with h | h
    · simp at h; omega
    · have := hsF g h; omega)
  refine ⟨X.heap.size + 1 + 1, _, rfl, BoxAt.new (h := (Value.slice none 0 0, X.heap.size, X.heap.size + 1, m18, m19, m20, m21, m22, none)) HbZ.out ⟨[], _, ⟨[], RowAt.nil_ _ _ _, rfl⟩, ⟨[X.heap.size], _, ⟨Hm1.out.keep HkZ.out (by omega), rfl⟩, ⟨[X.heap.size + 1], _, ⟨Hm2.out.keep HkZ.out (by omega), rfl⟩, ⟨f18, _, h18, ⟨f19, _, h19, ⟨f20, _, h20, ⟨f21, _, h21, ⟨f22, [], h22, P.none_ Z, rfl, n22⟩, rfl, n21⟩, rfl, n20⟩, rfl, n19⟩, rfl, hnd⟩, rfl, nm2⟩, rfl, nm1⟩, rfl, by simpa using nm1⟩ ?_, ?_, ?_⟩
  · intro hm
    rcases List.mem_append.1 hm with h | h
    · cases h
    rcases List.mem_append.1 h with h | h
    · exact absurd (List.mem_singleton.1 h) (by omega)
    rcases List.mem_append.1 h with h | h
    · exact absurd (List.mem_singleton.1 h) (by omega)
    · exact hbF h
  · exact Keeps.then_ HxY.out HkZ.out (fun g hg _ => by omega)
  · intro g hg
    rcases List.mem_cons.1 hg with rfl | h
    · omega
    rcases List.mem_append.1 h with h | h
    · cases h
    rcases List.mem_append.1 h with h | h
    · simp at h; omega
    rcases List.mem_append.1 h with h | h
    · simp at h; omega
    · have := hsF g h; omega
end Go.Proofs.YtpkkkhgmkndpdaaGreatDoor
