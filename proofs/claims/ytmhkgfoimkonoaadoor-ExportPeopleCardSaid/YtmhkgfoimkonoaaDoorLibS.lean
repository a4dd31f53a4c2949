/-
  What is proved here: strconv.Itoa and strings.Join of texts that read as a list. Conditions: the library's table of powers holds what its text lays; numbers lie from 0 to 2^40.
-/
import Derived.Test.YtmhkgfoimkonoaaDoorBase
import Derived.Test.YtmhkgfoimkonoaaDoorShelf
import Derived.Lib.ItoaMem
namespace Go.Proofs.YtmhkgfoimkonoaaDoor
open Go Go.RowKit Go.Proofs Go.Sort

/-- The library's table of powers of ten holds what its text lays. -/
def Pow (w : World) : Prop := Lib.TabIs Tryd.prog w "internal/strconv.uint64pow10" .u64 Lib.pow10Tab
theorem var_ext {P : Program} {w w' : World} {name : String} {cs : Array Value} (h : Ext w w') (hv : w.var? P name = some cs) : w'.var? P name = some cs := by
  unfold World.var? at *
  cases hg : P.globalNamed name with
  | none => rw [hg] at hv; simp at hv
  | some g =>
    rw [hg] at hv
    simp only [Option.bind_some] at hv ⊢
    cases hb : w.heap[g]? with
    | none => rw [hb] at hv; cases hv
    | some o => rw [h.blk hb]; rw [hb] at hv; exact hv
theorem Pow.ext {w w' : World} (h : Pow w) (hx : Ext w w') : Pow w' := var_ext hx h
theorem Ext.of_grow (w : World) (k : Nat) (os : Array Obj) : Ext w (grow (w.drewN k) os) :=
  ⟨rfl, rfl, rfl, by simp [grow, World.drewN], fun i hi _ => by
    show (w.heap ++ os)[i]? = _
    rw [Array.getElem?_append, if_pos hi]⟩

def itoaB (n : Int) : ByteArray := ⟨(Lib.itoa n).toArray⟩
theorem itoa_c (n : Int) (h0 : 0 ≤ n) (h1 : n ≤ 1099511627776) (w : World) (hp : Pow w) :
    Calls Tryd.prog 54 #[.int .i64 n] w fun e w' => e = .returned (.string (itoaB n)) ∧ Ext w w' := by
  refine (Tryd.strconv_Itoa n (by omega) (by omega) w hp).mono ?_
  rintro e w' ⟨rfl, k, os, rfl⟩
  exact ⟨rfl, Ext.of_grow w k os⟩
theorem join_len (xs : List (List UInt8)) (sep : List UInt8) (k : Nat) (h : ∀ x ∈ xs, x.length ≤ k) : (Lib.join xs sep).length ≤ xs.length * (k + sep.length) := by
  unfold Lib.join List.intercalate
  induction xs with
  | nil => simp
  | cons x xs ih =>
    have hx := h x (by simp)
    have := ih (fun y hy => h y (by simp [hy]))
    cases xs with
    | nil => simp; omega
    | cons y ys =>
      simp only [List.intersperse_cons_cons, List.flatten_cons, List.length_append, List.length_cons] at this ⊢
      rw [Nat.succ_mul (ys.length + 1)]
      omega
theorem itoa_len (n : Int) (h0 : 0 ≤ n) (h1 : n ≤ 1099511627776) : (Lib.itoa n).length ≤ 1000 := by
  unfold Lib.itoa
  rw [if_neg (by omega), Lib.decDigits_length]
  have h2 : n.toNat < 18446744073709551616 := by omega
  rcases Nat.eq_zero_or_pos n.toNat with h | hu
  · rw [h, Lib.nDigits_small (by omega)]; omega
  · have := Lib.numDigits_eq n.toNat hu h2; split at this <;> omega
/-- strings.Join of texts that read as a list. -/
theorem join_c (A : Option Addr) (n c : Nat) (l : List ByteArray) (sep : ByteArray) (ok : Nat → Prop) (w : World) (hs : Sl strR ok w A n l) (hc : n ≤ c) (hn : n ≤ 1000000) (hlen : (Lib.join (l.map (·.data.toList)) sep.data.toList).length ≤ 140737488355328) :
    Calls Tryd.prog 55 #[.slice A n c, .string sep] w fun e w' => e = .returned (.string ⟨(Lib.join (l.map (·.data.toList)) sep.data.toList).toArray⟩) ∧ Ext w w' := by
  have hl := hs.1
  rcases Nat.eq_zero_or_pos n with rfl | hpos
  · have : l = [] := List.eq_nil_of_length_eq_zero hl
    subst this
    refine (Tryd.strings_Join_none A c sep w).mono ?_
    rintro e w' ⟨rfl, rfl⟩
    exact ⟨rfl, Keeps.refl _ _⟩
  · obtain ⟨b, o, rfl, hb, _, hcell⟩ := hs.2 hpos
    subst hl
    refine (Tryd.strings_Join b o c l sep w (fun j x hx => ?_) hb (by omega) hc hlen).mono ?_
    · obtain ⟨xs, rfl, h⟩ := hcell j x hx
      have := h 0 _ rfl
      simpa [strR] using this
    · rintro e w' ⟨rfl, hbl⟩
      exact ⟨rfl, Ext.of_below hbl⟩
end Go.Proofs.YtmhkgfoimkonoaaDoor
