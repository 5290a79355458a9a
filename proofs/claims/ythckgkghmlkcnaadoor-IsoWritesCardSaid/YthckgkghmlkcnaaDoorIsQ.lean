/-
  THE WALK of the document's Same, at two messages that are the same.
-/
import Derived.Deep.QuietTactic
import Derived.BigQuiet
import Derived.Test.YthckgkghmlkcnaaDoorIsR
namespace Go.Proofs.YthckgkghmlkcnaaDoor
open Go.RowKit

theorem fld_eq (f : Fld) (W : World) : (binOp .neq 41 (.agg #[.int .i64 f.n, .string f.v]) (.agg #[.int .i64 f.n, .string f.v])).run Tryd.prog W = .ok (.bool false) W := by
  simp [go_sem]
def SameP (w : World) (e : Ending) (w' : World) : Prop := e = .returned (.bool true) ∧ Fr noBlock w w'
set_option maxRecDepth 100000 in
set_option maxHeartbeats 1600000 in
theorem same_yes (t : ByteArray) {ao bo : Option Addr} {l : List Fld} {w : World} (ha : RowRd FldR w ao l) (hb : RowRd FldR w bo l) (ca cb : Nat) (hl : l.length ≤ maxLen) : Calls Tryd.prog 15 #[.agg #[.string t, .slice ao l.length ca], .agg #[.string t, .slice bo l.length cb]] w (SameP w) := by
  have HA := Lib.hid ha
  have HB := Lib.hid hb
  unfold maxLen at hl
  have HF0 := Lib.hid (((Fr.refl noBlock w).alloc (.cells #[.string t, .slice ao l.length ca] 27)).alloc (.cells #[.string t, .slice bo l.length cb] 27))
  have t1 : ((l.length : Int) != (l.length : Int)) = false := by rw [bne_eq_false_iff_eq]
  have HB1 := Lib.hid (heap_old (.cells #[.string t, .slice bo l.length cb] 27) (heap_new w (.cells #[.string t, .slice ao l.length ca] 27)))
  have HB2 := Lib.hid (show ((w.alloc (.cells #[.string t, .slice ao l.length ca] 27)).alloc (.cells #[.string t, .slice bo l.length cb] 27)).heap[w.heap.size + 1]? = some (.cells #[.string t, .slice bo l.length cb] 27 (0, 0)) by
    have := heap_new (w.alloc (.cells #[.string t, .slice ao l.length ca] 27)) (.cells #[.string t, .slice bo l.length cb] 27)
    simpa using this)
  clear ha hb
  go_enter Tryd.func15, Tryd.ntmps15
  go_wp2_with fail
  refine wp_at (φ := fun W => Fr noBlock w W ∧ W.heap[w.heap.size]? = some (.cells #[.string t, .slice ao l.length ca] 27 (0, 0)) ∧ W.heap[w.heap.size + 1]? = some (.cells #[.string t, .slice bo l.length cb] 27 (0, 0))) ⟨HF0.out, HB1.out, HB2.out⟩ ?_
  rintro W ⟨hf, hb1, hb2⟩
  have HF := Lib.hid hf
  have HW1 := Lib.hid (And.intro hb1 hb2)
  clear hf hb1 hb2 HF0 HB1 HB2
  go_loopw [5] (fun s5 wr => ∃ k : Nat, k ≤ l.length ∧ s5 = .int .i64 k ∧ Hid (Fr noBlock W wr)) (fun s5 _ => l.length - (intOf s5).toNat)
  case atStart => exact ⟨0, Nat.zero_le _, rfl, Lib.hid (Fr.refl _ _)⟩
  case round =>
    obtain ⟨k, hk, rfl, Hf⟩ := hrel
    have c1 := cell_of (Hf.out.obj HW1.out.1 (fun x => x)) 1
    have c2 := cell_of (Hf.out.obj HW1.out.2 (fun x => x)) 1
    simp at c1 c2
    by_cases hlt : k < l.length
    · have h1' : (k : Int) < (l.length : Int) := by omega
      have h0' : (0 : Int) ≤ (k : Int) := by omega
      have hk1 : k + 1 ≤ l.length := hlt
      obtain ⟨b1, o1, rfl, -, p0, p1⟩ := fld_cells (HA.out.fr0 (HF.out.trans' Hf.out)) hlt
      obtain ⟨b2, o2, rfl, -, q0, q1⟩ := fld_cells (HB.out.fr0 (HF.out.trans' Hf.out)) hlt
      have he := fld_eq l[k]
      generalize l[k] = f at *
      obtain ⟨fn, fv⟩ := f
      simp only at p0 p1 q0 q1 he
      clear hlt
      go_wp2_with fail
      go_quiet (fail)
      go_wp2_with fail
      go_roundw
      case rel => exact ⟨k + 1, hk1, by go_num, Lib.hid (Hf.out.drewN nq)⟩
      case measure => simp [intOf]; omega
    · have h1' : (l.length : Int) ≤ (k : Int) := by omega
      have HF2 := Lib.hid (HF.out.trans' Hf.out)
      clear hlt
      go_wp2_with fail
      go_ret
      exact ⟨rfl, HF2.out⟩
end Go.Proofs.YthckgkghmlkcnaaDoor
