/-
  What is proved here: identities (a source and a number, in a struct of two fields) as keys of a map. No program is in sight. No condition.
-/
import Derived.Test.YtdkgphambjnbiaaDoorMaps
import Derived.DeepKeys3
import Derived.ChangeKeysEq
import Derived.Laws.StructEq
namespace Go.Proofs.YtdkgphambjnbiaaDoor
open Go Go.RowKit Go.MapKept
/-- A struct of a text and an int. -/
structure IdT (P : Program) (kt : TypeId) (f0 f1 : Field) : Prop where
  u : P.underlying kt = some (.struct #[f0, f1])
  n0 : f0.name ≠ "_"
  n1 : f1.name ≠ "_"
  t0 : P.underlying f0.type = some .string
  t1 : P.underlying f1.type = some (.int .i64)
  o0 : f0.offset = 0
  o1 : f1.offset = 1
  held : P.stoodInHeld kt = false
abbrev Idt := ByteArray × Int
def idV (a : Idt) : Value := .agg #[.string a.1, .int .i64 a.2]
section
variable {P : Program} {kt : TypeId} {f0 f1 : Field} (I : IdT P kt f0 f1)
include I
theorem id_p0 : P.plainKey f0.type = true := by unfold Program.plainKey; rw [I.t0]
theorem id_p1 : P.plainKey f1.type = true := by unfold Program.plainKey; rw [I.t1]
theorem id_check_n (w : World) (em : Bool) (a : Idt) (n : Nat) : (Instr.checkKey em (n + 1 + 1) kt (idV a)).run P w = .ok () w := by
  have q0 := run_part_plain w (id_p0 I) (xs := #[.string a.1, .int .i64 a.2]) (off := f0.offset) (v := .string a.1) (by rw [I.o0]; rfl)
  have q1 := run_part_plain w (id_p1 I) (xs := #[.string a.1, .int .i64 a.2]) (off := f1.offset) (v := .int .i64 a.2) (by rw [I.o1]; rfl)
  unfold Instr.checkKey idV
  simp only [Sem.run_bind, run_underlying I.u, Result.andThen_ok]
  rw [← Array.forIn_toList]
  simp [I.n0, I.n1, q0, q1, Instr.checkKey, run_underlying I.t0, run_underlying I.t1, Result.andThen]
theorem id_check (w : World) (em : Bool) (a : Idt) : (Instr.checkKey em 10000 kt (idV a)).run P w = .ok () w := id_check_n I w em a 9998
theorem id_equal_n (w : World) (a b : Idt) (n : Nat) : (Op.equalIn (n + 1 + 1) kt (idV a) (idV b)).run P w = .ok (a.1 == b.1 && a.2 == b.2) w := by
  have q0 := fun (x : ByteArray) (z : Int) => run_part_plain w (id_p0 I) (xs := #[.string x, .int .i64 z]) (off := f0.offset) (v := .string x) (by rw [I.o0]; rfl)
  have q1 := fun (x : ByteArray) (z : Int) => run_part_plain w (id_p1 I) (xs := #[.string x, .int .i64 z]) (off := f1.offset) (v := .int .i64 z) (by rw [I.o1]; rfl)
  have e0 := run_equalIn_string (P := P) w n f0.type a.1 b.1 I.t0
  have e1 := run_equalIn_int (P := P) w n f1.type .i64 .i64 a.2 b.2 I.t1
  have hf : P.fieldsOf kt = #[f0, f1] := by unfold Program.fieldsOf; rw [I.u]
  have hb : (a.1.toList == b.1.toList) = (a.1 == b.1) := (beq_toListBytes _ _).symm
  unfold idV
  rw [run_equalIn_agg w (n + 1) kt _ _ (by rw [hf]; exact I.u) I.held, hf]
  rw [hb] at e0
  simp only [Op.eqFields, if_pos I.n0, if_pos I.n1, Sem.run_bind, q0, e0, Result.andThen_ok]
  cases (a.1 == b.1)
  · simp
  · by_cases h9 : a.2 = b.2
    · rw [h9] at e1 ⊢
      simp [q1, e1]
    · simp [q1, e1, h9]
theorem id_equal (w : World) (a b : Idt) : (Op.equal kt (idV a) (idV b)).run P w = .ok (a.1 == b.1 && a.2 == b.2) w := id_equal_n I w a b 9998
omit I in
theorem id_eq_iff (a b : Idt) : (a.1 == b.1 && a.2 == b.2) = true ↔ a = b := by
  obtain ⟨a1, a2⟩ := a
  obtain ⟨b1, b2⟩ := b
  rw [Bool.and_eq_true]
  have e : ∀ x y : ByteArray, (x == y) = true ↔ x = y := bytes_beq
  rw [e]
  simp
omit I in
theorem id_inj (a b : Idt) (h : idV a = idV b) : a = b := by
  obtain ⟨a1, a2⟩ := a
  obtain ⟨b1, b2⟩ := b
  simp [idV] at h
  rw [h.1, h.2]
theorem id_find (w : World) (a : Idt) : ∀ (es : List MapEntry) (i : Nat), (∀ x ∈ es, ∃ b, x.key = idV b) →
    ((Instr.findAsking kt (idV a) es i).run P w = .ok none w ∧ ∀ x ∈ es, x.key ≠ idV a) ∨ ∃ (j : Nat) (e : MapEntry), (Instr.findAsking kt (idV a) es i).run P w = .ok (some (i + j, e.val)) w ∧ es[j]? = some e ∧ e.key = idV a
  | [], i, _ => .inl ⟨by simp [Instr.findAsking], by simp⟩
  | e :: es, i, hall => by
    obtain ⟨b, hb⟩ := hall e (by simp)
    have hr := id_equal I w a b
    rw [← hb] at hr
    cases h : (a.1 == b.1 && a.2 == b.2)
    · rw [h] at hr
      have hne : e.key ≠ idV a := fun h9 => by
        have := id_inj b a (hb.symm.trans h9)
        rw [this, (id_eq_iff a a).2 rfl] at h
        cases h
      rcases id_find w a es (i + 1) (fun y hy => hall y (by simp [hy])) with ⟨h1, h2⟩ | ⟨j, e', h1, h2, h3⟩
      · left
        refine ⟨by simp [Instr.findAsking, hr, h1], fun y hy => ?_⟩
        rcases List.mem_cons.1 hy with rfl | hy
        · exact hne
        · exact h2 y hy
      · right
        exact ⟨j + 1, e', by simp [Instr.findAsking, hr, h1, Nat.add_assoc, Nat.add_comm 1 j], by simpa using h2, h3⟩
    · rw [h] at hr
      right
      exact ⟨0, e, by simp [Instr.findAsking, hr], rfl, by rw [hb, (id_eq_iff a b).1 h]⟩
/-- Identities as keys. -/
def idK : MK P kt Idt where
  of := idV
  eq a b := a.1 == b.1 && a.2 == b.2
  eq_iff := id_eq_iff
  check := id_check I
  find w a es hall := by
    rw [run_findKey_eq w (by rw [I.u])]
    rcases id_find I w a es 0 hall with ⟨h1, h2⟩ | ⟨j, e, h1, h2, h3⟩
    · exact .inl ⟨h1, h2⟩
    · exact .inr ⟨j, e, by rw [h1, Nat.zero_add], h2, h3⟩
  inj := id_inj
  stays w a := by
    have hn : ∀ n, Instr.sameBits (n + 1) (idV a) (idV a) = true := fun n => by
      simp [Instr.sameBits, idV]
      exact (bytes_beq _ _).2 rfl
    have hs : Instr.sameBits 10000 (idV a) (idV a) = true := hn 9999
    simp [Instr.keyThatStays, hs]
end
end Go.Proofs.YtdkgphambjnbiaaDoor
