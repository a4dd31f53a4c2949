/-
  What is proved here: what the program's Decode does with a line that is no entry, or one with a wrong sum. Conditions: texts of at most a million bytes; the library's variables hold what their text lays.
-/
import Derived.Test.YtkfcbafmefdhmaaDoorAuDec1
import Derived.Deep.RegionWith
namespace Go.Proofs.YtkfcbafmefdhmaaDoor
open Go Go.RowKit Go.Proofs
attribute [local go_sem ↓] Go.wp_at_zero Go.wp_at_succ
theorem five {α : Type} {l : List α} (h : l.length = 5) : ∃ a b c d e, l = [a, b, c, d, e] := by
  match l, h with
  | [a, b, c, d, e], _ => exact ⟨a, b, c, d, e, rfl⟩
theorem aud_parse (s : ByteArray) (w : World) (hs : s.size ≤ 999999) (hv : VarsA w) :
    Calls Tryd.prog 39 #[.string s] w (fun e w' => (entP s.data.toList = none ∧ PeNo w e w') ∨ ∃ E, entP s.data.toList = some E ∧ PeYes E w e w') := by
  by_cases h : (partsL 32 s.data.toList).length = 5
  · obtain ⟨w0, w1, w2, w3, w4, hl⟩ := five (l := (partsL 32 s.data.toList).map bts) (by rw [List.length_map, h])
    refine aud_parse_5 s w0 w1 w2 w3 w4 w hs hv hl ?_
    rw [← hl]
    intro x hx
    obtain ⟨p, hp, rfl⟩ := List.mem_map.1 hx
    have h1 := mem_parts_size 32 _ p hp
    have h2 : s.data.toList.length = s.size := by simp
    rw [bts_size]; omega
  · exact (aud_parse_len s w hs hv h).mono fun _ _ h9 => .inl ⟨entP_none h, h9⟩
theorem aud_parse_no (s : ByteArray) (w : World) (hs : s.size ≤ 999999) (hv : VarsA w) (h : entP s.data.toList = none) : Calls Tryd.prog 39 #[.string s] w (PeNo w) :=
  (aud_parse s w hs hv).mono fun _ _ h9 => by
    rcases h9 with ⟨_, h9⟩ | ⟨E, h8, _⟩
    · exact h9
    · rw [h] at h8; cases h8
theorem aud_parse_yes (s : ByteArray) (w : World) (hs : s.size ≤ 999999) (hv : VarsA w) {E : Ent} (h : entP s.data.toList = some E) : Calls Tryd.prog 39 #[.string s] w (PeYes E w) :=
  (aud_parse s w hs hv).mono fun _ _ h9 => by
    rcases h9 with ⟨h8, _⟩ | ⟨E', h8, h9⟩
    · rw [h] at h8; cases h8
    · rw [h] at h8
      injection h8 with h8
      subst h8
      exact h9
set_option maxRecDepth 100000 in
set_option maxHeartbeats 4000000 in
theorem dec_entry_no (s : ByteArray) (g : Nat) (w : World) (hs : s.size ≤ 999999) (hv : VarsA w) (h : entP s.data.toList = none) :
    Calls Tryd.prog 38 #[.string s, .pointer (some ⟨g, 0, none⟩)] w fun e w' => e = .returned (.int .i64 2) ∧ Ext w w' := by
  have HP := Lib.hid (aud_parse_no s w hs hv h)
  clear hv h
  go_enter Tryd.func38, Tryd.ntmps38
  go_wp2_with fail
  refine HP.out.mono ?_
  rintro _ w1 ⟨x, y, z, p, A, n, c, rfl, hx1⟩
  have Hx1 := Lib.hid hx1
  clear hx1
  go_wp2_with fail
  go_ret
  exact ⟨rfl, Hx1.out.alloc _⟩
end Go.Proofs.YtkfcbafmefdhmaaDoor
