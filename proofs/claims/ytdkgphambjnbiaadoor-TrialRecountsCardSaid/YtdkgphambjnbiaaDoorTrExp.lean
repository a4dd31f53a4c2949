/-
  What is proved here: who is exposed is noted in a book, at the first tick. Conditions: at most a thousand trials, no text is longer than a text can be.
-/
import Derived.Test.YtdkgphambjnbiaaDoorTrFind
namespace Go.Proofs.YtdkgphambjnbiaaDoor
open Go Go.RowKit Go.Proofs
attribute [local go_sem ↓] Go.wp_at_zero Go.wp_at_succ

def putMin (l : List (ByteArray × Int)) (p : ByteArray) (a : Int) : List (ByteArray × Int) :=
  match getM (fun a b => a == b) l p with
  | none => putM (fun a b => a == b) l p a
  | some s => if a < s then putM (fun a b => a == b) l p a else l
def setX (xs : ByteArray → List (ByteArray × Int)) (name : ByteArray) (l : List (ByteArray × Int)) : ByteArray → List (ByteArray × Int) := fun n => if n == name then l else xs n
/-- Whether a person may be exposed in this trial at this tick. -/
def expT (t : Tr) (person : ByteArray) (a : Int) : Bool := nameB person && decide (0 ≤ a) && decide (a ≤ 1099511627776) && inT t person

theorem zero_m (w : World) : (zeroValue 79).run Tryd.prog w = .ok (.map none) w := by kernel_rfl
theorem zero_i (w : World) : (zeroValue 3).run Tryd.prog w = .ok (.int .i64 0) w := by kernel_rfl

set_option maxRecDepth 100000 in
set_option maxHeartbeats 4000000 in
theorem exp_none (b m lim : Nat) (v : Value) (outer : List (ByteArray × Nat)) (ts : List Tr) (xs : ByteArray → List (ByteArray × Int)) (name person : ByteArray) (a : Int) (w : World) (h : BookX w b m lim v outer ts xs) (hn : ts.length ≤ 1000) (hi : ts.findIdx? (fun o => o.name == name) = none) :
    Calls Tryd.prog 24 #[.pointer (some ⟨b, 0, none⟩), .string name, .string person, .int .i64 a] w fun r w' => r = .returned (.bool false) ∧ Ext w w' := by
  have Hf := Lib.hid (bk_find_no b m lim v outer ts xs name w h hn hi)
  clear h hi
  go_enter Tryd.func24, Tryd.ntmps24
  go_wp2_with (go_at_call 39; refine Hf.out.mono ?_; rintro _ w1 ⟨rfl, hx1⟩; have Hx1 := Lib.hid hx1; clear hx1)
  go_ret
  exact ⟨rfl, Hx1.out.alloc _⟩

set_option maxRecDepth 100000 in
set_option maxHeartbeats 4000000 in
theorem exp_no (b m lim : Nat) (v : Value) (outer : List (ByteArray × Nat)) (ts : List Tr) (xs : ByteArray → List (ByteArray × Int)) (name person : ByteArray) (a : Int) (w : World) (h : BookX w b m lim v outer ts xs) (hn : ts.length ≤ 1000) (i : Nat) (t : Tr) (hi : ts.findIdx? (fun o => o.name == name) = some i) (ht : ts[i]? = some t) (hwf : TrWf t) (hp : person.size ≤ maxLen) (hpl : person.size < maxLen) (he : expT t person a = false) :
    Calls Tryd.prog 24 #[.pointer (some ⟨b, 0, none⟩), .string name, .string person, .int .i64 a] w fun r w' => r = .returned (.bool false) ∧ Ext w w' := by
  have Hf := Lib.hid (bk_find_yes b m lim v outer ts xs name w h hn i t hi ht)
  have Hwf := Lib.hid hwf
  have He := Lib.hid he
  clear h hi ht hwf he
  cases hnm : nameB person
  · go_enter Tryd.func24, Tryd.ntmps24
    go_wp2_with (first | (go_at_call 39; refine Hf.out.mono ?_; rintro _ w1 ⟨A, c, rfl, hc, hs1, hx1⟩; have Hx1 := Lib.hid hx1; have Hs1 := Lib.hid hs1; clear hx1 hs1) | (go_at_call 34; refine (event_Name _ _ hp).mono ?_; rw [hnm]; rintro _ w' ⟨rfl, rfl⟩))
    go_ret
    exact ⟨rfl, Hx1.out.alloc _⟩
  by_cases h1 : a < 0
  · go_enter Tryd.func24, Tryd.ntmps24
    go_wp2_with (first | (go_at_call 39; refine Hf.out.mono ?_; rintro _ w1 ⟨A, c, rfl, hc, hs1, hx1⟩; have Hx1 := Lib.hid hx1; have Hs1 := Lib.hid hs1; clear hx1 hs1) | (go_at_call 34; refine (event_Name _ _ hp).mono ?_; rw [hnm]; rintro _ w' ⟨rfl, rfl⟩))
    go_ret
    exact ⟨rfl, Hx1.out.alloc _⟩
  by_cases h2 : 1099511627776 < a
  · go_enter Tryd.func24, Tryd.ntmps24
    go_wp2_with (first | (go_at_call 39; refine Hf.out.mono ?_; rintro _ w1 ⟨A, c, rfl, hc, hs1, hx1⟩; have Hx1 := Lib.hid hx1; have Hs1 := Lib.hid hs1; clear hx1 hs1) | (go_at_call 34; refine (event_Name _ _ hp).mono ?_; rw [hnm]; rintro _ w' ⟨rfl, rfl⟩))
    go_ret
    exact ⟨rfl, Hx1.out.alloc _⟩
  have hin : inT t person = false := by
    have h3 := He.out
    unfold expT at h3
    have e1 : decide (0 ≤ a) = true := by simp; omega
    have e2 : decide (a ≤ 1099511627776) = true := by simp; omega
    rw [hnm, e1, e2] at h3
    simpa using h3
  go_enter Tryd.func24, Tryd.ntmps24
  go_wp2_with (first | (go_at_call 39; refine Hf.out.mono ?_; rintro _ w1 ⟨A, c, rfl, hc, hs1, hx1⟩; have Hx1 := Lib.hid hx1; have Hs1 := Lib.hid hs1; clear hx1 hs1) | (go_at_call 34; refine (event_Name _ _ hp).mono ?_; rw [hnm]; rintro _ w' ⟨rfl, rfl⟩) | (go_at_call 14; refine (tr_Arm t person A c _ _ ((Hs1.out.ext Hx1.out).alloc _) hc Hwf.out hpl).mono ?_; rw [hin]; rintro _ w2 ⟨rfl, hx2⟩; have Hx2 := Lib.hid (Keeps.trans (Hx1.out.alloc _) hx2); clear hx2))
  go_ret
  exact ⟨rfl, Hx2.out⟩
end Go.Proofs.YtdkgphambjnbiaaDoor
