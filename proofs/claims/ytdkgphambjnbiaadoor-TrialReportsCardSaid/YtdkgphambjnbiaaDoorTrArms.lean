/-
  What is proved here: a person's arms in a book's trials. Conditions: at most a thousand trials, no text is longer than a text can be.
-/
import Derived.Test.YtdkgphambjnbiaaDoorTrBook
namespace Go.Proofs.YtdkgphambjnbiaaDoor
open Go Go.RowKit Go.Proofs
attribute [local go_sem ↓] Go.wp_at_zero Go.wp_at_succ

abbrev strV : ByteArray → Value := fun s => .string s
/-- A person's arms, trial by trial. -/
def armsM (ts : List Tr) (person : ByteArray) : List (ByteArray × ByteArray) := ts.foldl (fun l t => if inT t person then putM (fun a b : ByteArray => a == b) l t.name (armT t person) else l) []
theorem armsM_in {ts : List Tr} {k : Nat} {t : Tr} {person : ByteArray} (h : ts[k]? = some t) (hi : inT t person = true) : armsM (ts.take (k + 1)) person = putM (fun a b : ByteArray => a == b) (armsM (ts.take k) person) t.name (armT t person) := by
  unfold armsM; rw [List.take_add_one, h, List.foldl_append]; simp [hi]
theorem armsM_out {ts : List Tr} {k : Nat} {t : Tr} {person : ByteArray} (h : ts[k]? = some t) (hi : inT t person = false) : armsM (ts.take (k + 1)) person = armsM (ts.take k) person := by
  unfold armsM; rw [List.take_add_one, h, List.foldl_append]; simp [hi]
theorem put_s {W : World} {m : Nat} {l : List (ByteArray × ByteArray)} (h : Mp (strK (P := Tryd.prog) (kt := 9) Tryd.underlying9) strV W m l) (name x : ByteArray) :
    ∃ w', (Instr.mapUpdate 64 (.map (some m)) (.string name) (.string x)).run Tryd.prog W = .ok () w' ∧ Mp (strK (P := Tryd.prog) (kt := 9) Tryd.underlying9) strV w' m (putM (fun a b : ByteArray => a == b) l name x) ∧ Keeps (fun i => i ≠ m) W w' := by
  obtain ⟨w', h1, h2, h3, _⟩ := h.put Tryd.underlying64 name x
  exact ⟨w', h1, h2, h3⟩

set_option maxRecDepth 100000 in
set_option maxHeartbeats 4000000 in
theorem bk_Arms (b m lim : Nat) (v : Value) (outer : List (ByteArray × Nat)) (ts : List Tr) (xs : ByteArray → List (ByteArray × Int)) (person : ByteArray) (w : World) (h : BookX w b m lim v outer ts xs) (hn : ts.length ≤ 1000) (hwf : ∀ t ∈ ts, TrWf t) (hp : person.size < maxLen) :
    Calls Tryd.prog 29 #[.pointer (some ⟨b, 0, none⟩), .string person] w fun r w' => r = .returned (.map (some w.heap.size)) ∧ Mp (strK (P := Tryd.prog) (kt := 9) Tryd.underlying9) strV w' w.heap.size (armsM ts person) ∧ Ext w w' := by
  obtain ⟨A0, c0, rfl⟩ := h.own.form
  have q0 := blk_cell h.blk 0 rfl
  have hbw : b < w.heap.size := (Array.getElem?_eq_some_iff.1 h.blk).1
  obtain ⟨n, hnn⟩ : ∃ n, n = ts.length := ⟨_, rfl⟩
  have hs : Sl trR (fun _ => True) w A0 ts.length ts := h.own.sl (fun _ _ _ _ => trivial) (fun _ _ _ => trivial)
  rw [← hnn] at q0 hs hn
  have Hs := Lib.hid hs
  have Hwf := Lib.hid hwf
  have Hnn := Lib.hid hnn
  have hmm := @run_makeMap Tryd.prog
  clear h hs hwf hnn
  go_enter Tryd.func29, Tryd.ntmps29
  go_wp2_with fail
  go_loopw [16] (fun i wr => ∃ k : Nat, k ≤ n ∧ i = .int .i64 k ∧ Mp (strK (P := Tryd.prog) (kt := 9) Tryd.underlying9) strV wr w.heap.size (armsM (ts.take k) person) ∧ Ext w wr) (fun i _ => n - (intOf i).toNat)
  case atStart => exact ⟨0, Nat.zero_le _, rfl, Mp.new w, (Keeps.refl _ _).alloc _⟩
  case round =>
    obtain ⟨k, hk, rfl, hmp, hx⟩ := hrel
    have Hmp := Lib.hid hmp
    have Hx := Lib.hid hx
    have hlw := hmp.lt
    clear hmp hx
    by_cases hlt : k < n
    · obtain ⟨b2, o2, t, A', c', rfl, hb2, _, ht, hc', hs', d0, d1, d2, d3, d4⟩ := (Hs.out.ext Hx.out).tr hlt
      have Ht := Lib.hid ht
      have Hs' := Lib.hid hs'
      have Hw := Lib.hid (Hwf.out t (List.mem_of_getElem? ht))
      have i0 : (0 : Int) ≤ (k : Int) := by omega
      have i1 : (k : Int) < (n : Int) := by omega
      clear ht hs'
      go_wp2_with fail
      refine (tr_Arm t person A' c' (fun _ => True) _ (Hs'.out.alloc _) hc' Hw.out hp).mono ?_
      rintro _ w2 ⟨rfl, hx2⟩
      have g2 := hx2.blk (blk_new wr _)
      have r0 := blk_cell g2 0 rfl
      have hx02 := Keeps.trans ((Keeps.refl (fun _ => True) wr).alloc _) hx2
      have hmp2 := Hmp.out.ext hx02
      cases hin : inT t person
      · have Hst := Lib.hid (armsM_out Ht.out hin)
        have Hmp2 := Lib.hid hmp2
        have Hx2 := Lib.hid (Hx.out.trans hx02)
        clear g2 hx02 hmp2 hx2
        go_wp2_with fail
        go_roundw
        case rel => exact ⟨k + 1, by omega, by go_num, by rw [Hst.out]; exact Hmp2.out, Hx2.out⟩
        case measure => simp [intOf]; omega
      · have Hst := Lib.hid (armsM_in Ht.out hin)
        generalize armT t person = a at *
        obtain ⟨w5, P5, hm5, hk5⟩ := put_s hmp2 t.name a
        have Hm5 := Lib.hid hm5
        have Hx5 := Lib.hid (show Ext w w5 from Keeps.then_ (Hx.out.trans hx02) hk5 (fun i hi _ => by omega))
        clear g2 hx02 hmp2 hx2 hm5 hk5
        go_wp2_with fail
        go_roundw
        case rel => exact ⟨k + 1, by omega, by go_num, by rw [Hst.out]; exact Hm5.out, Hx5.out⟩
        case measure => simp [intOf]; omega
    · obtain rfl : k = n := by omega
      have HF := Lib.hid (List.take_of_length_le (Nat.le_of_eq Hnn.out.symm))
      go_wp2_with fail
      go_ret
      refine ⟨rfl, ?_, Hx.out⟩
      have := Hmp.out
      rw [HF.out] at this
      exact this
end Go.Proofs.YtdkgphambjnbiaaDoor
