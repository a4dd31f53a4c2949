/-
  What is proved here: the document's report. Conditions: at most a thousand trials, exposures and events, short texts; who is noted as exposed is in the trial, at a tick that is not negative, under a name that is not empty.
-/
import Derived.Test.YtdkgphambjnbiaaDoorTrXe
import Derived.Test.YtdkgphambjnbiaaDoorTrRep
import Derived.Test.YtdkgphambjnbiaaDoorEvWor
namespace Go.Proofs.YtdkgphambjnbiaaDoor
open Go Go.RowKit Go.Proofs
attribute [local go_sem ↓] Go.wp_at_zero Go.wp_at_succ
def rwR : Rep Rw where
  size := 4
  rep _ _ r xs := xs = rwL r
  len h := by subst h; rfl
  one h u hu := by
    subst h
    simp [rwL] at hu
    rcases hu with rfl | rfl | rfl | rfl <;> rfl
  keep _ h := h
  mono _ h := h
theorem info_rw : (Tryd.prog.info? 53).map (fun i => (i.zero, i.size, i.bytes)) = some (some (.agg #[.string ⟨#[]⟩, .int .i64 0, .int .i64 0, .int .i64 0]), 4, 40) := by kernel_rfl
theorem arm_same {t : Tr} {p a : ByteArray} {q : Nat} (hnd : t.arms.Nodup) (ha : t.arms[q]? = some a) (hin : inT t p = true) : (armT t p == a) = decide (armNo t p = (q : Int)) := by
  have h1 := armT_at hin
  have hm : mayT t = true := by simp only [inT, Bool.and_eq_true] at hin; exact hin.1.1
  have h2 := armNo_in t p (mayT_parts hm).one
  have hq := (List.getElem?_eq_some_iff.1 ha).1
  rw [Bool.eq_iff_iff, beq_bytes, decide_eq_true_eq]
  constructor
  · intro e
    rw [e] at h1
    have hpw := List.pairwise_iff_getElem.1 hnd
    obtain ⟨hz, hze⟩ := List.getElem?_eq_some_iff.1 h1
    obtain ⟨hq', hqe⟩ := List.getElem?_eq_some_iff.1 ha
    rcases Nat.lt_trichotomy (armNo t p).toNat q with h | h | h
    · exact absurd (hze.trans hqe.symm) (hpw _ _ hz hq' h)
    · omega
    · exact absurd (hqe.trans hze.symm) (hpw _ _ hq' hz h)
  · intro e
    rw [e] at h1
    simp only [Int.toNat_natCast] at h1
    rw [ha] at h1
    exact (Option.some.inj h1).symm
theorem was_step {had : List Xp} {m : Nat} {x y : Xp} (h : had[m]? = some y) : wasX (had.take (m + 1)) x = (wasX (had.take m) x || ((y.trial == x.trial) && (y.person == x.person))) := by
  unfold wasX; rw [List.take_add_one, h, List.any_append]; simp
set_option maxRecDepth 100000 in
set_option maxHeartbeats 2000000 in
theorem rf_Report_none (A : Option Addr) (n c : Nat) (l : List Tr) (Ax : Option Addr) (nx cx : Nat) (name : ByteArray) (Al : Option Addr) (na cl : Nat) (ok : Nat → Prop) (w : World) (hs : Sl trR ok w A n l) (hn : n ≤ 1000) (hi : l.findIdx? (fun o => o.name == name) = none) :
    Calls Tryd.prog 26 #[.slice A n c, .slice Ax nx cx, .string name, .slice Al na cl] w fun r w' => r = .returned (.slice none 0 0) ∧ w = w' := by
  have Hs := Lib.hid hs
  have Hix := Lib.hid (idxT_no hi)
  clear hs hi
  go_enter Tryd.func26, Tryd.ntmps26
  go_wp2_with (go_at_call 38; refine (rf_Find A n c l name _ _ Hs.out hn).mono ?_; rw [Hix.out]; rintro _ _ ⟨rfl, rfl⟩)
  go_ret
  exact ⟨rfl, rfl⟩
/-- The first arms' rows. -/
theorem rowsE_take {t : Tr} {ds : List ByteArray} {cs : List Ev} {q : Nat} {a : ByteArray} (ha : t.arms[q]? = some a) : (rowsE t ds cs).take (q + 1) = (rowsE t ds cs).take q ++ [⟨a, (pplN t ds q : Nat), (bghtN t cs q : Nat), wrthN t q cs⟩] := by
  rw [List.take_add_one, rowsE_at ha]; rfl
/-- How an event's row changes. -/
theorem bght_app (t : Tr) (cs : List Ev) (e : Ev) (q : Nat) : bghtN t (cs ++ [e]) q = bghtN t cs q + (if armNo t e.person = (q : Int) ∧ e.kind = 3 then 1 else 0) := by
  unfold bghtN
  rw [List.countP_append]
  by_cases h1 : armNo t e.person = (q : Int) <;> by_cases h2 : e.kind = 3 <;> simp [h1, h2]
end Go.Proofs.YtdkgphambjnbiaaDoor
