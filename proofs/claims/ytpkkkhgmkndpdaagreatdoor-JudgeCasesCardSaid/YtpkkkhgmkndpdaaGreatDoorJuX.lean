/-
  What is proved here: the plain side of the law's own example: its three events, anew, and their one case. No condition.
  the law's own example, lives, is true. Conditions: the library's variables, and the names of the kinds, hold what their text lays.
-/
import Derived.Test.YtpkkkhgmkndpdaaGreatDoorJuP
import Derived.Test.YtpkkkhgmkndpdaaGreatDoorJuR
import Derived.Test.YtpkkkhgmkndpdaaGreatDoorJuW
namespace Go.Proofs.YtpkkkhgmkndpdaaGreatDoor
open Go Go.RowKit
theorem jv_cases : casesR [(⟨⟨#[115]⟩, 1, 90000, 3, ⟨#[112]⟩, ⟨#[97]⟩, 0, ⟨#[]⟩⟩ : Ev), (⟨⟨#[115]⟩, 2, 90005, 2, ⟨#[112]⟩, ⟨#[98]⟩, 0, ⟨#[]⟩⟩ : Ev), (⟨⟨#[115]⟩, 3, 180000, 3, ⟨#[112]⟩, ⟨#[97]⟩, 0, ⟨#[]⟩⟩ : Ev)] = [⟨⟨#[112]⟩, 86400, [⟨#[97]⟩, ⟨#[98]⟩]⟩] := by kernel_rfl
theorem jv_may : ∀ e ∈ [(⟨⟨#[115]⟩, 1, 90000, 3, ⟨#[112]⟩, ⟨#[97]⟩, 0, ⟨#[]⟩⟩ : Ev), (⟨⟨#[115]⟩, 2, 90005, 2, ⟨#[112]⟩, ⟨#[98]⟩, 0, ⟨#[]⟩⟩ : Ev), (⟨⟨#[115]⟩, 3, 180000, 3, ⟨#[112]⟩, ⟨#[97]⟩, 0, ⟨#[]⟩⟩ : Ev)], mayE e = true := by
  have h : [(⟨⟨#[115]⟩, 1, 90000, 3, ⟨#[112]⟩, ⟨#[97]⟩, 0, ⟨#[]⟩⟩ : Ev), (⟨⟨#[115]⟩, 2, 90005, 2, ⟨#[112]⟩, ⟨#[98]⟩, 0, ⟨#[]⟩⟩ : Ev), (⟨⟨#[115]⟩, 3, 180000, 3, ⟨#[112]⟩, ⟨#[97]⟩, 0, ⟨#[]⟩⟩ : Ev)].all mayE = true := by decide +kernel
  exact fun e he => List.all_eq_true.1 h e he
theorem jv_asc : Asc [(⟨⟨#[115]⟩, 1, 90000, 3, ⟨#[112]⟩, ⟨#[97]⟩, 0, ⟨#[]⟩⟩ : Ev), (⟨⟨#[115]⟩, 2, 90005, 2, ⟨#[112]⟩, ⟨#[98]⟩, 0, ⟨#[]⟩⟩ : Ev), (⟨⟨#[115]⟩, 3, 180000, 3, ⟨#[112]⟩, ⟨#[97]⟩, 0, ⟨#[]⟩⟩ : Ev)] := by
  refine List.pairwise_cons.2 ⟨fun e he => ?_, List.pairwise_cons.2 ⟨fun e he => ?_, List.pairwise_singleton _ _⟩⟩
  · simp only [List.mem_cons, List.not_mem_nil, or_false] at he
    rcases he with rfl | rfl <;> decide +kernel
  · simp only [List.mem_cons, List.not_mem_nil, or_false] at he
    subst he
    decide +kernel
theorem jv_ids : Ids [(⟨⟨#[115]⟩, 1, 90000, 3, ⟨#[112]⟩, ⟨#[97]⟩, 0, ⟨#[]⟩⟩ : Ev), (⟨⟨#[115]⟩, 2, 90005, 2, ⟨#[112]⟩, ⟨#[98]⟩, 0, ⟨#[]⟩⟩ : Ev), (⟨⟨#[115]⟩, 3, 180000, 3, ⟨#[112]⟩, ⟨#[97]⟩, 0, ⟨#[]⟩⟩ : Ev)] := by
  refine List.pairwise_cons.2 ⟨fun e he => ?_, List.pairwise_cons.2 ⟨fun e he => ?_, List.pairwise_singleton _ _⟩⟩
  · simp only [List.mem_cons, List.not_mem_nil, or_false] at he
    rcases he with rfl | rfl <;> decide +kernel
  · simp only [List.mem_cons, List.not_mem_nil, or_false] at he
    subst he
    decide +kernel
theorem jv_kind : ∀ e ∈ [(⟨⟨#[115]⟩, 1, 90000, 3, ⟨#[112]⟩, ⟨#[97]⟩, 0, ⟨#[]⟩⟩ : Ev), (⟨⟨#[115]⟩, 2, 90005, 2, ⟨#[112]⟩, ⟨#[98]⟩, 0, ⟨#[]⟩⟩ : Ev), (⟨⟨#[115]⟩, 3, 180000, 3, ⟨#[112]⟩, ⟨#[97]⟩, 0, ⟨#[]⟩⟩ : Ev)], e.kind ≠ 14 := by
  intro e he
  simp only [List.mem_cons, List.not_mem_nil, or_false] at he
  rcases he with rfl | rfl | rfl <;> decide
theorem jv_anew : anewE [(⟨⟨#[115]⟩, 1, 90000, 3, ⟨#[112]⟩, ⟨#[97]⟩, 0, ⟨#[]⟩⟩ : Ev), (⟨⟨#[115]⟩, 2, 90005, 2, ⟨#[112]⟩, ⟨#[98]⟩, 0, ⟨#[]⟩⟩ : Ev), (⟨⟨#[115]⟩, 3, 180000, 3, ⟨#[112]⟩, ⟨#[97]⟩, 0, ⟨#[]⟩⟩ : Ev)] = [(⟨⟨#[115]⟩, 1, 90000, 3, ⟨#[112]⟩, ⟨#[97]⟩, 0, ⟨#[]⟩⟩ : Ev), (⟨⟨#[115]⟩, 2, 90005, 2, ⟨#[112]⟩, ⟨#[98]⟩, 0, ⟨#[]⟩⟩ : Ev), (⟨⟨#[115]⟩, 3, 180000, 3, ⟨#[112]⟩, ⟨#[97]⟩, 0, ⟨#[]⟩⟩ : Ev)] := by
  refine asc_ext (anew_asc jv_may) jv_asc fun e => ?_
  rw [anew_mem jv_may]
  exact ⟨fun h => h.1.1, fun h => ⟨⟨h, fun x hx hs => .inl (ids_one jv_ids hx h hs)⟩, .inr fun g hg hk => absurd hk (jv_kind g hg.1)⟩⟩
theorem jv_all : casesR (anewE [(⟨⟨#[115]⟩, 1, 90000, 3, ⟨#[112]⟩, ⟨#[97]⟩, 0, ⟨#[]⟩⟩ : Ev), (⟨⟨#[115]⟩, 2, 90005, 2, ⟨#[112]⟩, ⟨#[98]⟩, 0, ⟨#[]⟩⟩ : Ev), (⟨⟨#[115]⟩, 3, 180000, 3, ⟨#[112]⟩, ⟨#[97]⟩, 0, ⟨#[]⟩⟩ : Ev)]) = [⟨⟨#[112]⟩, 86400, [⟨#[97]⟩, ⟨#[98]⟩]⟩] := by rw [jv_anew, jv_cases]
/-- A list, and turned behind it: the same cases. -/
theorem turned_anew {l : List Ev} (h : ∀ e ∈ l, mayE e = true) : anewE (l ++ l.reverse) = anewE l :=
  anew_eq (fun e he => by rcases List.mem_append.1 he with h1 | h1; exact h e h1; exact h e (List.mem_reverse.1 h1)) h fun e => by simp
end Go.Proofs.YtpkkkhgmkndpdaaGreatDoor
namespace Go.Proofs.YtpkkkhgmkndpdaaGreatDoor
open Go Go.RowKit Go.Proofs
attribute [local go_sem ↓] Go.wp_at_zero Go.wp_at_succ
set_option maxRecDepth 100000 in
set_option maxHeartbeats 2000000 in
theorem jl_of (n at_ kind : Int) (it : ByteArray) (w : World) :
    Calls Tryz.prog 10 #[.int .i64 n, .int .i64 at_, .int .i64 kind, .string it] w fun r w' => r = .returned (.agg #[.string ⟨#[115]⟩, .int .i64 n, .int .i64 at_, .int .i64 kind, .string ⟨#[112]⟩, .string it, .int .i64 0, .string ⟨#[]⟩]) ∧ Ext w w' := by
  have Hx := Lib.hid (fun o => show Ext w (w.alloc o) from (Keeps.refl _ _).alloc o)
  go_enter Tryz.func10, Tryz.ntmps10
  go_wp2_with fail
  refine bodyPost_ret (v := .agg #[.string ⟨#[115]⟩, .int .i64 n, .int .i64 at_, .int .i64 kind, .string ⟨#[112]⟩, .string it, .int .i64 0, .string ⟨#[]⟩]) (by simp [results, Tryz.results10, go_sem, *]) rfl ⟨rfl, Hx.out _⟩
theorem jl_row {ok : Nat → Prop} {w : World} {g : Nat} {t : TypeId} {fr : Nat × Nat} (hb : w.heap[g]? = some (.cells #[.string ⟨#[115]⟩, .int .i64 1, .int .i64 90000, .int .i64 3, .string ⟨#[112]⟩, .string ⟨#[97]⟩, .int .i64 0, .string ⟨#[]⟩, .string ⟨#[115]⟩, .int .i64 2, .int .i64 90005, .int .i64 2, .string ⟨#[112]⟩, .string ⟨#[98]⟩, .int .i64 0, .string ⟨#[]⟩, .string ⟨#[115]⟩, .int .i64 3, .int .i64 180000, .int .i64 3, .string ⟨#[112]⟩, .string ⟨#[97]⟩, .int .i64 0, .string ⟨#[]⟩] t fr)) (hok : ok g) : Sl evR ok w (some ⟨g, 0, none⟩) 3 [(⟨⟨#[115]⟩, 1, 90000, 3, ⟨#[112]⟩, ⟨#[97]⟩, 0, ⟨#[]⟩⟩ : Ev), (⟨⟨#[115]⟩, 2, 90005, 2, ⟨#[112]⟩, ⟨#[98]⟩, 0, ⟨#[]⟩⟩ : Ev), (⟨⟨#[115]⟩, 3, 180000, 3, ⟨#[112]⟩, ⟨#[97]⟩, 0, ⟨#[]⟩⟩ : Ev)] :=
  Sl.new_flat hb hok rfl fun k a ha => by
    match k, ha with
    | 0, ha => obtain rfl := Option.some.inj ha; exact ⟨[.string ⟨#[115]⟩, .int .i64 1, .int .i64 90000, .int .i64 3, .string ⟨#[112]⟩, .string ⟨#[97]⟩, .int .i64 0, .string ⟨#[]⟩], rfl, fun j u hu => by
        match j, hu with
        | 0, hu | 1, hu | 2, hu | 3, hu | 4, hu | 5, hu | 6, hu | 7, hu => exact hu
        | j + 8, hu => cases hu⟩
    | 1, ha => obtain rfl := Option.some.inj ha; exact ⟨[.string ⟨#[115]⟩, .int .i64 2, .int .i64 90005, .int .i64 2, .string ⟨#[112]⟩, .string ⟨#[98]⟩, .int .i64 0, .string ⟨#[]⟩], rfl, fun j u hu => by
        match j, hu with
        | 0, hu | 1, hu | 2, hu | 3, hu | 4, hu | 5, hu | 6, hu | 7, hu => exact hu
        | j + 8, hu => cases hu⟩
    | 2, ha => obtain rfl := Option.some.inj ha; exact ⟨[.string ⟨#[115]⟩, .int .i64 3, .int .i64 180000, .int .i64 3, .string ⟨#[112]⟩, .string ⟨#[97]⟩, .int .i64 0, .string ⟨#[]⟩], rfl, fun j u hu => by
        match j, hu with
        | 0, hu | 1, hu | 2, hu | 3, hu | 4, hu | 5, hu | 6, hu | 7, hu => exact hu
        | j + 8, hu => cases hu⟩
    | k + 3, ha => cases ha
set_option maxRecDepth 100000 in
set_option maxHeartbeats 4000000 in
theorem jl_lives (w : World) (hv : Vars w) : Calls Tryz.prog 4 #[] w fun r w' => r = .returned (.bool true) ∧ Ext w w' := by
  have H1 := Lib.hid (fun (W : World) => jl_of 1 90000 3 ⟨#[97]⟩ W)
  have H2 := Lib.hid (fun (W : World) => jl_of 2 90005 2 ⟨#[98]⟩ W)
  have H3 := Lib.hid (fun (W : World) => jl_of 3 180000 3 ⟨#[97]⟩ W)
  have htn : ∀ e ∈ [(⟨⟨#[115]⟩, 1, 90000, 3, ⟨#[112]⟩, ⟨#[97]⟩, 0, ⟨#[]⟩⟩ : Ev), (⟨⟨#[115]⟩, 2, 90005, 2, ⟨#[112]⟩, ⟨#[98]⟩, 0, ⟨#[]⟩⟩ : Ev), (⟨⟨#[115]⟩, 3, 180000, 3, ⟨#[112]⟩, ⟨#[97]⟩, 0, ⟨#[]⟩⟩ : Ev)], EvTn e := by
    intro e he
    simp only [List.mem_cons, List.not_mem_nil, or_false] at he
    rcases he with rfl | rfl | rfl <;> exact ⟨by decide, by decide, by decide, by decide⟩
  have HC := Lib.hid (fun (g c : Nat) (W : World) (t : TypeId) (fr : Nat × Nat) (hb : W.heap[g]? = some (.cells #[.string ⟨#[115]⟩, .int .i64 1, .int .i64 90000, .int .i64 3, .string ⟨#[112]⟩, .string ⟨#[97]⟩, .int .i64 0, .string ⟨#[]⟩, .string ⟨#[115]⟩, .int .i64 2, .int .i64 90005, .int .i64 2, .string ⟨#[112]⟩, .string ⟨#[98]⟩, .int .i64 0, .string ⟨#[]⟩, .string ⟨#[115]⟩, .int .i64 3, .int .i64 180000, .int .i64 3, .string ⟨#[112]⟩, .string ⟨#[97]⟩, .int .i64 0, .string ⟨#[]⟩] t fr)) (hx : Ext w W) => show Calls Tryz.prog 6 #[.slice (some ⟨g, 0, none⟩) 3 c] W (fun r w' => ∃ (A' : Option Addr) (n' c' : Nat), r = .returned (.slice A' n' c') ∧ Sl casR (fun g => W.heap.size ≤ g) w' A' n' [⟨⟨#[112]⟩, 86400, [⟨#[97]⟩, ⟨#[98]⟩]⟩] ∧ Ext W w') from by
    have h := ju_Cases (some ⟨g, 0, none⟩) 3 c [(⟨⟨#[115]⟩, 1, 90000, 3, ⟨#[112]⟩, ⟨#[97]⟩, 0, ⟨#[]⟩⟩ : Ev), (⟨⟨#[115]⟩, 2, 90005, 2, ⟨#[112]⟩, ⟨#[98]⟩, 0, ⟨#[]⟩⟩ : Ev), (⟨⟨#[115]⟩, 3, 180000, 3, ⟨#[112]⟩, ⟨#[97]⟩, 0, ⟨#[]⟩⟩ : Ev)] (fun _ => True) W (jl_row hb trivial) (by omega) jv_may htn (hv.ext hx)
    rw [jv_all] at h
    exact h)
  clear htn hv
  go_enter Tryz.func4, Tryz.ntmps4
  go_wp2_with (first
    | (go_at_call 10; first
      | ((with_reducible refine (H1.out _).mono ?_); rintro _ X1 ⟨rfl, hx1⟩; have Hx1 := Lib.hid hx1; clear hx1)
      | ((with_reducible refine (H2.out _).mono ?_); rintro _ X2 ⟨rfl, hx2⟩; have Hx2 := Lib.hid hx2; clear hx2)
      | ((with_reducible refine (H3.out _).mono ?_); rintro _ X3 ⟨rfl, hx3⟩; have Hx3 := Lib.hid (Keeps.trans Hx1.out (Keeps.trans Hx2.out hx3)); clear hx3))
    | (go_at_call 6; refine (HC.out _ _ _ _ _ (blk_new _ _) (Hx3.out.alloc _)).mono ?_; rintro _ Y ⟨A', n', c', rfl, hsl, hxY⟩; obtain rfl : n' = 1 := hsl.1.symm; obtain ⟨b, o, x, AI, ci, rfl, hb, _, hx, hci, hsi, z0, z1, z2⟩ := hsl.cas (k := 0) (by omega); obtain rfl := Option.some.inj hx; have Hsi := Lib.hid hsi; have HxY := Lib.hid (Keeps.trans (Hx3.out.alloc _) hxY); clear hsl hx hsi hxY)
    | (go_at_call 11; refine (texts_yes _ _ 2 _ _ [⟨#[97]⟩, ⟨#[98]⟩] _ (fun _ => True) _ (Hsi.out.ext ((Keeps.refl _ _).alloc _)) (Sl.new_strs (blk_new _ _) trivial rfl rfl) (by omega)).mono ?_; rintro _ _ ⟨rfl, q, rfl⟩))
  go_ret
  exact ⟨rfl, Keeps.drewN (HxY.out.alloc _) _⟩
end Go.Proofs.YtpkkkhgmkndpdaaGreatDoor
