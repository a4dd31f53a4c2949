/-
  What is proved here: trials are searched by a function: the first of a name, the first that stands against another one. Conditions: no text is longer than a text can be.
-/
import Derived.Test.YtdkgphambjnbiaaDoorTrFew
import Derived.Test.YtdkgphambjnbiaaDoorClone
import Derived.Test.YtdkgphambjnbiaaDoorMaps
namespace Go.Proofs.YtdkgphambjnbiaaDoor
open Go Go.RowKit Go.Proofs
attribute [local go_sem ↓] Go.wp_at_zero Go.wp_at_succ

def againstT (o t : Tr) : Bool := (o.name == t.name) || ((o.layer == t.layer) && decide (o.lo < t.hi) && decide (t.lo < o.hi))

set_option maxRecDepth 100000 in
set_option maxHeartbeats 2000000 in
theorem new_fn (o t : Tr) (A A' : Option Addr) (c c' g : Nat) (w : World) (hg : w.heap[g]? = some (.cells #[.string t.name, .string t.layer, .int .i64 t.lo, .int .i64 t.hi, .slice A' t.arms.length c'] 29)) :
    Calls Tryd.prog 46 #[.agg #[.string o.name, .string o.layer, .int .i64 o.lo, .int .i64 o.hi, .slice A o.arms.length c], .pointer (some ⟨g, 0, none⟩)] w fun r w' => r = .returned (.bool (againstT o t)) ∧ Ext w w' := by
  have hx : ∀ o, Ext w (w.alloc o) := fun o => (Keeps.refl _ _).alloc o
  have Hx := Lib.hid hx
  have r0 := blk_cell hg 0 rfl
  have r1 := blk_cell hg 1 rfl
  have r2 := blk_cell hg 2 rfl
  have r3 := blk_cell hg 3 rfl
  have hlt : g < w.heap.size := (Array.getElem?_eq_some_iff.1 hg).1
  clear hx hg
  cases h1 : (o.name == t.name) <;> have h1' := h1 <;> rw [beq_toListBytes] at h1'
  · cases h2 : (o.layer == t.layer) <;> have h2' := h2 <;> rw [beq_toListBytes] at h2'
    · have Hf := Lib.hid (show againstT o t = false by unfold againstT; rw [h1, h2]; rfl)
      go_enter Tryd.func46, Tryd.ntmps46
      go_wp2_with fail
      go_ret
      exact ⟨by rw [Hf.out]; rfl, Hx.out _⟩
    · cases h3 : decide (o.lo < t.hi)
      · have Hf := Lib.hid (show againstT o t = false by unfold againstT; rw [h1, h2, h3]; rfl)
        go_enter Tryd.func46, Tryd.ntmps46
        go_wp2_with fail
        go_ret
        exact ⟨by rw [Hf.out]; rfl, Hx.out _⟩
      · cases h4 : decide (t.lo < o.hi)
        · have Hf := Lib.hid (show againstT o t = false by unfold againstT; rw [h1, h2, h3, h4]; rfl)
          go_enter Tryd.func46, Tryd.ntmps46
          go_wp2_with fail
          go_ret
          exact ⟨by rw [Hf.out]; rfl, Hx.out _⟩
        · have Hf := Lib.hid (show againstT o t = true by unfold againstT; rw [h1, h2, h3, h4]; rfl)
          go_enter Tryd.func46, Tryd.ntmps46
          go_wp2_with fail
          go_ret
          exact ⟨by rw [Hf.out]; rfl, Hx.out _⟩
  · have Hf := Lib.hid (show againstT o t = true by unfold againstT; rw [h1]; rfl)
    go_enter Tryd.func46, Tryd.ntmps46
    go_wp2_with fail
    go_ret
    exact ⟨by rw [Hf.out]; rfl, Hx.out _⟩

set_option maxRecDepth 100000 in
set_option maxHeartbeats 2000000 in
theorem find_fn (o : Tr) (name : ByteArray) (A : Option Addr) (c g : Nat) (w : World) (hg : w.heap[g]? = some (.cells #[.string name] 9)) :
    Calls Tryd.prog 52 #[.agg #[.string o.name, .string o.layer, .int .i64 o.lo, .int .i64 o.hi, .slice A o.arms.length c], .pointer (some ⟨g, 0, none⟩)] w fun r w' => r = .returned (.bool (o.name == name)) ∧ Ext w w' := by
  have r0 := blk_cell hg 0 rfl
  have hlt : g < w.heap.size := (Array.getElem?_eq_some_iff.1 hg).1
  have Hf := Lib.hid (beq_toListBytes o.name name)
  clear hg
  go_enter Tryd.func52, Tryd.ntmps52
  go_wp2_with fail
  go_ret
  exact ⟨by rw [Hf.out]; rfl, (Keeps.refl _ _).alloc _⟩

/-- The first place at which p holds; -1: there is none. -/
def idxT (p : Tr → Bool) (l : List Tr) : Int := match l.findIdx? p with | some k => (k : Int) | none => -1
theorem idxT_hit {p : Tr → Bool} {l : List Tr} {k : Nat} {t : Tr} (h : l[k]? = some t) (hp : p t = true) (hall : (l.take k).any p = false) : idxT p l = k := by
  have : l.findIdx? p = some k := by
    rw [List.findIdx?_eq_some_iff_getElem]
    have hk : k < l.length := (List.getElem?_eq_some_iff.1 h).1
    refine ⟨hk, by rw [(List.getElem?_eq_some_iff.1 h).2]; exact hp, fun j hj hc => ?_⟩
    have : (l.take k).any p = true := List.any_eq_true.2 ⟨l[j], by rw [List.mem_take_iff_getElem]; exact ⟨j, by omega, rfl⟩, hc⟩
    rw [hall] at this; cases this
  simp [idxT, this]
theorem idxT_none {p : Tr → Bool} {l : List Tr} (h : l.any p = false) : idxT p l = -1 := by
  have : l.findIdx? p = none := by
    rw [List.findIdx?_eq_none_iff]
    intro x hx
    rw [Bool.eq_false_iff]; intro hc
    have : l.any p = true := List.any_eq_true.2 ⟨x, hx, hc⟩
    rw [h] at this; cases this
  simp [idxT, this]
theorem idxT_any (p : Tr → Bool) (l : List Tr) : decide (0 ≤ idxT p l) = l.any p := by
  cases h : l.any p
  · rw [idxT_none h]; rfl
  · unfold idxT
    cases h2 : l.findIdx? p with
    | some k => simp
    | none =>
      rw [List.findIdx?_eq_none_iff] at h2
      obtain ⟨x, hx, hc⟩ := List.any_eq_true.1 h
      rw [h2 x hx] at hc; cases hc
theorem anyT_step {p : Tr → Bool} {l : List Tr} {k : Nat} {t : Tr} (h : l[k]? = some t) (hall : (l.take k).any p = false) (ht : p t = false) : (l.take (k + 1)).any p = false := by
  rw [List.take_add_one, h, List.any_append, hall]; simp [ht]

set_option maxRecDepth 100000 in
set_option maxHeartbeats 2000000 in
theorem idx_new (p : Tr → Bool) (g : Nat) (A : Option Addr) (n c : Nat) (l : List Tr) (ok : Nat → Prop) (w : World) (hs : Sl trR ok w A n l) (hn : n ≤ 1000000)
    (hcl : ∀ (W : World) (o : Tr) (A : Option Addr) (c : Nat), Ext w W → Calls Tryd.prog 46 #[.agg #[.string o.name, .string o.layer, .int .i64 o.lo, .int .i64 o.hi, .slice A o.arms.length c], .pointer (some ⟨g, 0, none⟩)] W fun r w' => r = .returned (.bool (p o)) ∧ Ext W w') :
    Calls Tryd.prog 51 #[.slice A n c, .func (.func 46) #[] #[.pointer (some ⟨g, 0, none⟩)]] w fun e w' => e = .returned (.int .i64 (idxT p l)) ∧ Ext w w' := by
  have Hln := Lib.hid hs.1
  have Hs := Lib.hid hs
  have Hcl := Lib.hid hcl
  clear hs hcl
  go_enter Tryd.func51, Tryd.ntmps51
  go_wp2_with fail
  go_loopw [5, 8] (fun _ i wr => ∃ k : Nat, k ≤ n ∧ i = .int .i64 k ∧ (l.take k).any p = false ∧ Ext w wr) (fun _ i _ => n - (intOf i).toNat)
  case atStart => exact ⟨0, Nat.zero_le _, rfl, by simp, Keeps.refl _ _⟩
  case round =>
    obtain ⟨k, hk, rfl, hall, hx⟩ := hrel
    have Hall := Lib.hid hall
    have Hx := Lib.hid hx
    clear hall hx
    by_cases hlt : k < n
    · obtain ⟨b, o', t, A', c', rfl, hb, ho, ht, hc', hs', d0, d1, d2, d3, d4⟩ := (Hs.out.ext Hx.out).tr hlt
      have Ht := Lib.hid ht
      have i0 : (0 : Int) ≤ (k : Int) := by omega
      have i1 : (k : Int) < (n : Int) := by omega
      clear ht hs'
      cases h7 : p t
      · have Hst := Lib.hid (anyT_step Ht.out Hall.out h7)
        go_wp2_with (go_at_call 46; refine (Hcl.out _ t A' c' Hx.out).mono ?_; rw [h7]; rintro _ w2 ⟨rfl, hx2⟩; have Hx2 := Lib.hid (Hx.out.trans hx2); clear hx2)
        go_roundw
        case rel => exact ⟨k + 1, by omega, by go_num, Hst.out, Hx2.out⟩
        case measure => simp [intOf]; omega
      · have Hf := Lib.hid (idxT_hit Ht.out h7 Hall.out)
        go_wp2_with (go_at_call 46; refine (Hcl.out _ t A' c' Hx.out).mono ?_; rw [h7]; rintro _ w2 ⟨rfl, hx2⟩; have Hx2 := Lib.hid (Hx.out.trans hx2); clear hx2)
        go_ret
        exact ⟨by rw [Hf.out]; rfl, Hx2.out⟩
    · have Hf := Lib.hid (idxT_none (p := p) (l := l) (by have := Hall.out; rw [List.take_of_length_le (by have := Hln.out; omega)] at this; exact this))
      go_wp2_with fail
      go_ret
      exact ⟨by rw [Hf.out]; rfl, Hx.out⟩

set_option maxRecDepth 100000 in
set_option maxHeartbeats 2000000 in
theorem idx_find (p : Tr → Bool) (g : Nat) (A : Option Addr) (n c : Nat) (l : List Tr) (ok : Nat → Prop) (w : World) (hs : Sl trR ok w A n l) (hn : n ≤ 1000000)
    (hcl : ∀ (W : World) (o : Tr) (A : Option Addr) (c : Nat), Ext w W → Calls Tryd.prog 52 #[.agg #[.string o.name, .string o.layer, .int .i64 o.lo, .int .i64 o.hi, .slice A o.arms.length c], .pointer (some ⟨g, 0, none⟩)] W fun r w' => r = .returned (.bool (p o)) ∧ Ext W w') :
    Calls Tryd.prog 51 #[.slice A n c, .func (.func 52) #[] #[.pointer (some ⟨g, 0, none⟩)]] w fun e w' => e = .returned (.int .i64 (idxT p l)) ∧ Ext w w' := by
  have Hln := Lib.hid hs.1
  have Hs := Lib.hid hs
  have Hcl := Lib.hid hcl
  clear hs hcl
  go_enter Tryd.func51, Tryd.ntmps51
  go_wp2_with fail
  go_loopw [5, 8] (fun _ i wr => ∃ k : Nat, k ≤ n ∧ i = .int .i64 k ∧ (l.take k).any p = false ∧ Ext w wr) (fun _ i _ => n - (intOf i).toNat)
  case atStart => exact ⟨0, Nat.zero_le _, rfl, by simp, Keeps.refl _ _⟩
  case round =>
    obtain ⟨k, hk, rfl, hall, hx⟩ := hrel
    have Hall := Lib.hid hall
    have Hx := Lib.hid hx
    clear hall hx
    by_cases hlt : k < n
    · obtain ⟨b, o', t, A', c', rfl, hb, ho, ht, hc', hs', d0, d1, d2, d3, d4⟩ := (Hs.out.ext Hx.out).tr hlt
      have Ht := Lib.hid ht
      have i0 : (0 : Int) ≤ (k : Int) := by omega
      have i1 : (k : Int) < (n : Int) := by omega
      clear ht hs'
      cases h7 : p t
      · have Hst := Lib.hid (anyT_step Ht.out Hall.out h7)
        go_wp2_with (go_at_call 52; refine (Hcl.out _ t A' c' Hx.out).mono ?_; rw [h7]; rintro _ w2 ⟨rfl, hx2⟩; have Hx2 := Lib.hid (Hx.out.trans hx2); clear hx2)
        go_roundw
        case rel => exact ⟨k + 1, by omega, by go_num, Hst.out, Hx2.out⟩
        case measure => simp [intOf]; omega
      · have Hf := Lib.hid (idxT_hit Ht.out h7 Hall.out)
        go_wp2_with (go_at_call 52; refine (Hcl.out _ t A' c' Hx.out).mono ?_; rw [h7]; rintro _ w2 ⟨rfl, hx2⟩; have Hx2 := Lib.hid (Hx.out.trans hx2); clear hx2)
        go_ret
        exact ⟨by rw [Hf.out]; rfl, Hx2.out⟩
    · have Hf := Lib.hid (idxT_none (p := p) (l := l) (by have := Hall.out; rw [List.take_of_length_le (by have := Hln.out; omega)] at this; exact this))
      go_wp2_with fail
      go_ret
      exact ⟨by rw [Hf.out]; rfl, Hx.out⟩

theorem contains_new (p : Tr → Bool) (g : Nat) (A : Option Addr) (n c : Nat) (l : List Tr) (ok : Nat → Prop) (w : World) (hs : Sl trR ok w A n l) (hn : n ≤ 1000000)
    (hcl : ∀ (W : World) (o : Tr) (A : Option Addr) (c : Nat), Ext w W → Calls Tryd.prog 46 #[.agg #[.string o.name, .string o.layer, .int .i64 o.lo, .int .i64 o.hi, .slice A o.arms.length c], .pointer (some ⟨g, 0, none⟩)] W fun r w' => r = .returned (.bool (p o)) ∧ Ext W w') :
    Calls Tryd.prog 47 #[.slice A n c, .func (.func 46) #[] #[.pointer (some ⟨g, 0, none⟩)]] w fun e w' => e = .returned (.bool (l.any p)) ∧ Ext w w' := by
  have Hb := Lib.hid (idxT_any p l)
  go_enter Tryd.func47, Tryd.ntmps47
  go_wp2_with (go_at_call 51; refine (idx_new p g A n c l ok _ hs hn hcl).mono ?_; rintro _ w1 ⟨rfl, hx1⟩; have Hx1 := Lib.hid hx1; clear hx1)
  go_ret
  exact ⟨by rw [← Hb.out]; rfl, Hx1.out⟩
end Go.Proofs.YtdkgphambjnbiaaDoor
