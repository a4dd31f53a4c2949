/-
  What is proved here: the program's Sort of events hands back the plain function's list, in new memory. Conditions: at most a hundred thousand events.
-/
import Derived.Test.YtmhkgfoimkonoaaDoorSoS11
namespace Go.Proofs.YtmhkgfoimkonoaaDoor
open Go Go.RowKit Go.Proofs
attribute [local go_sem ↓] Go.wp_at_zero Go.wp_at_succ
/-- A row of events in a block of its own, no older than base. -/
def EvsAt (base : Nat) (w : World) (A : Option Addr) (n : Nat) (l : List Ev) : Prop :=
  l.length = n ∧ (n = 0 ∧ A = none ∨ ∃ g S, A = some ⟨g, 0, none⟩ ∧ base ≤ g ∧ Row w g 0 S l)
theorem EvsAt.sl {base : Nat} {w : World} {A : Option Addr} {n : Nat} {l : List Ev} (h : EvsAt base w A n l) : Sl evR (fun k => base ≤ k) w A n l := by
  rcases h.2 with ⟨h0, _⟩ | ⟨g, S, rfl, hb, hr⟩
  · have h1 := h.1
    subst h0
    have : l = [] := List.eq_nil_of_length_eq_zero h1
    subst this
    exact Sl.nil_
  · exact hr.sl h.1 hb
theorem EvsAt.ext {base : Nat} {w w' : World} {A : Option Addr} {n : Nat} {l : List Ev} (h : EvsAt base w A n l) (hx : Ext w w') : EvsAt base w' A n l :=
  ⟨h.1, h.2.imp id fun ⟨g, S, e, hb, hr⟩ => ⟨g, S, e, hb, hr.ext hx⟩⟩
theorem EvsAt.le {base base' : Nat} {w : World} {A : Option Addr} {n : Nat} {l : List Ev} (h : EvsAt base w A n l) (hx : base' ≤ base) : EvsAt base' w A n l :=
  ⟨h.1, h.2.imp id fun ⟨g, S, e, hb, hr⟩ => ⟨g, S, e, Nat.le_trans hx hb, hr⟩⟩
theorem Own.evs {ok : Nat → Prop} {w : World} {base n c : Nat} {A : Option Addr} {l : List Ev} (h : Own evR 30 ok w base (.slice A n c) n l) : EvsAt base w A n l := by
  refine ⟨h.1, ?_⟩
  have h2 := h
  rcases h.2.choose_spec.1.2 with ⟨hv, h0⟩ | ⟨g, cap, cur, hv, hb, _⟩
  · injection hv with h1 _ _
    exact .inl ⟨h0, h1⟩
  · injection hv with h1 _ h3
    subst h1
    obtain ⟨S, hr⟩ := h2.row
    exact .inr ⟨g, S, rfl, hb, hr⟩
set_option maxRecDepth 100000 in
set_option maxHeartbeats 2000000 in
theorem evs_Clip (A : Option Addr) (n c : Nat) (w : World) (hc : n ≤ c) :
    Calls Tryd.prog 34 #[.slice A n c] w fun e w' => e = .returned (.slice A n n) ∧ w = w' := by
  have i1 : (n : Int) ≤ (c : Int) := by omega
  have i0 : (0 : Int) ≤ (n : Int) := by omega
  go_enter Tryd.func34, Tryd.ntmps34
  go_wp2_with fail
  go_ret
  exact ⟨by simp, rfl⟩
set_option maxRecDepth 100000 in
set_option maxHeartbeats 2000000 in
theorem ev_Sort (A : Option Addr) (n c : Nat) (l : List Ev) (ok : Nat → Prop) (w : World) (hs : Sl evR ok w A n l) (hn : n ≤ 100000) :
    Calls Tryd.prog 12 #[.slice A n c] w fun e w' => ∃ A', e = .returned (.slice A' n n) ∧ EvsAt w.heap.size w' A' n (sortL lessE l) ∧ Ext w w' := by
  have C1 := Lib.hid (evs_Clone A n c l ok w hs hn)
  have Hl := Lib.hid hs.1
  clear hs
  go_enter Tryd.func12, Tryd.ntmps12
  go_wp2_with fail
  refine C1.out.mono ?_
  rintro _ w1 ⟨A1, c1, rfl, hown, hx1⟩
  have hcap := hown.cap
  have hev := hown.evs
  have Hx1 := Lib.hid hx1
  clear hown hx1
  rcases hev.2 with ⟨h0, rfl⟩ | ⟨g, S, rfl, hb, hr⟩
  · subst h0
    have hl0 : l = [] := List.eq_nil_of_length_eq_zero Hl.out
    subst hl0
    clear hev
    go_wp2_with fail
    refine (sort_zero none c1 w1).mono ?_
    rintro _ _ ⟨rfl, rfl⟩
    go_wp2_with fail
    refine (evs_Clip none 0 c1 w1 (Nat.zero_le _)).mono ?_
    rintro _ _ ⟨rfl, rfl⟩
    go_wp2_with fail
    go_ret
    exact ⟨none, rfl, ⟨rfl, .inl ⟨rfl, rfl⟩⟩, Hx1.out⟩
  · have C2 := Lib.hid (sort_stable g 0 n c1 S l w1 hr Hl.out hn)
    have Hb := Lib.hid hb
    clear hev hr hb
    go_wp2_with fail
    refine C2.out.mono ?_
    rintro _ w2 ⟨rfl, hst⟩
    have Hst := Lib.hid hst
    clear hst
    go_wp2_with fail
    refine (evs_Clip (some ⟨g, 0, none⟩) n c1 w2 hcap).mono ?_
    rintro _ _ ⟨rfl, rfl⟩
    go_wp2_with fail
    go_ret
    exact ⟨some ⟨g, 0, none⟩, rfl, ⟨Hst.out.len, .inr ⟨g, S, rfl, Hb.out, Hst.out.row⟩⟩, Keeps.then_ Hx1.out Hst.out.keep (fun i hi _ e => by have := Hb.out; omega)⟩
end Go.Proofs.YtmhkgfoimkonoaaDoor
