/-
  THE WALK of iso.Value.
-/
import Derived.Test.YthckgkghmlkcnaaDoorIsR
namespace Go.Proofs.YthckgkghmlkcnaaDoor
open Go.RowKit

def valF (n : Int) : List Fld → Option ByteArray
  | [] => none
  | f :: l => if f.n = n then some f.v else valF n l
def valS (n : Int) (l : List Fld) : ByteArray := (valF n l).getD ⟨#[]⟩
def valB (n : Int) (l : List Fld) : Bool := (valF n l).isSome
def ValueP (n : Int) (l : List Fld) (w : World) (e : Ending) (w' : World) : Prop := e = .returned (.tuple #[.string (valS n l), .bool (valB n l)]) ∧ Fr noBlock w w'
set_option maxRecDepth 100000 in
set_option maxHeartbeats 1600000 in
theorem value_of (t : ByteArray) {ao : Option Addr} {l : List Fld} {w : World} (h : RowRd FldR w ao l) (cap : Nat) (hl : l.length ≤ maxLen) (n : Int) : Calls Tryd.prog 20 #[.agg #[.string t, .slice ao l.length cap], .int .i64 n] w (ValueP n l w) := by
  have HR := Lib.hid h
  unfold maxLen at hl
  have HF0 := Lib.hid ((Fr.refl noBlock w).alloc (.cells #[.string t, .slice ao l.length cap] 27))
  clear h
  go_enter Tryd.func20, Tryd.ntmps20
  go_wp2_with fail
  go_loopw [11] (fun s11 wr => ∃ i : Nat, i ≤ l.length ∧ s11 = .int .i64 i ∧ Hid (Fr noBlock w wr) ∧ Hid (valF n l = valF n (l.drop i))) (fun s11 _ => l.length - (intOf s11).toNat)
  case atStart => exact ⟨0, Nat.zero_le _, rfl, HF0, Lib.hid rfl⟩
  case round =>
    obtain ⟨i, hi, rfl, HF, HI⟩ := hrel
    by_cases hlt : i < l.length
    · have q1 : (i : Int) < (l.length : Int) := by omega
      have q0 : (0 : Int) ≤ (i : Int) := by omega
      have hi' : i + 1 ≤ l.length := hlt
      obtain ⟨b, off, rfl, hb, y0, y1⟩ := fld_cells (HR.out.fr0 HF.out) hlt
      have hdr : l.drop i = l[i] :: l.drop (i + 1) := (List.drop_eq_getElem_cons hlt)
      generalize l[i] = f at *
      obtain ⟨fn, fv⟩ := f
      simp only at y0 y1
      have hv := HI.out
      rw [hdr] at hv
      have hcons : valF n (⟨fn, fv⟩ :: l.drop (i + 1)) = if fn = n then some fv else valF n (l.drop (i + 1)) := rfl
      rw [hcons] at hv
      have HF6 := Lib.hid (HF.out.alloc (.cells #[.int .i64 fn, .string fv] 41))
      by_cases he : fn = n
      · rw [if_pos he] at hv
        have HV := Lib.hid (show valS n l = fv ∧ valB n l = true by unfold valS valB; rw [hv]; exact ⟨rfl, rfl⟩)
        have hne : (fn == n) = true := by simpa using he
        clear hdr hv hlt HI hcons he
        go_wp2_with fail
        go_ret2
        exact ⟨by rw [HV.out.1, HV.out.2]; rfl, HF6.out⟩
      · rw [if_neg he] at hv
        have HV := Lib.hid hv
        have hne : (fn == n) = false := by simpa using he
        clear hdr hv hlt HI he hcons
        go_wp2_with fail
        go_roundw
        case rel => exact ⟨i + 1, hi', by go_num, HF6, HV⟩
        case measure => simp [intOf]; omega
    · have q1 : (l.length : Int) ≤ (i : Int) := by omega
      have hv := HI.out
      rw [List.drop_eq_nil_of_le (by omega)] at hv
      have HV := Lib.hid (show valS n l = ⟨#[]⟩ ∧ valB n l = false by unfold valS valB; rw [hv]; exact ⟨rfl, rfl⟩)
      clear hv HI hlt
      go_wp2_with fail
      go_ret2
      exact ⟨by rw [HV.out.1, HV.out.2]; rfl, HF.out⟩
set_option maxRecDepth 100000 in
set_option maxHeartbeats 1600000 in
theorem rvalue_of (t : ByteArray) {ao : Option Addr} {l : List Fld} {w : World} (h : RowRd FldR w ao l) (cap : Nat) (hl : l.length ≤ maxLen) (n : Int) : Calls Tryd.prog 21 #[.agg #[.string t, .slice ao l.length cap], .int .i64 n] w (ValueP n l w) := by
  have HR := Lib.hid h
  unfold maxLen at hl
  have hf0 := (Fr.refl noBlock w).alloc (.cells #[.string t, .slice ao l.length cap] 27)
  have HF0 := Lib.hid hf0
  have HB0 := Lib.hid (heap_new w (.cells #[.string t, .slice ao l.length cap] 27))
  clear h hf0
  go_enter Tryd.func21, Tryd.ntmps21
  go_wp2_with fail
  go_loop [6] (fun s6 => ∃ i : Nat, i ≤ l.length ∧ s6 = .int .i64 i ∧ Hid (valF n l = valF n (l.drop i))) (fun s6 => l.length - (intOf s6).toNat)
  case atStart => exact ⟨0, Nat.zero_le _, rfl, Lib.hid rfl⟩
  case round =>
    obtain ⟨i, hi, rfl, HI⟩ := hrel
    by_cases hlt : i < l.length
    · have q1 : (i : Int) < (l.length : Int) := by omega
      have q0 : (0 : Int) ≤ (i : Int) := by omega
      have hi' : i + 1 ≤ l.length := hlt
      obtain ⟨b, off, rfl, hb, y0, y1⟩ := fld_cells (HR.out.fr0 HF0.out) hlt
      have hdr : l.drop i = l[i] :: l.drop (i + 1) := (List.drop_eq_getElem_cons hlt)
      generalize l[i] = f at *
      obtain ⟨fn, fv⟩ := f
      simp only at y0 y1
      have hv := HI.out
      rw [hdr] at hv
      have hcons : valF n (⟨fn, fv⟩ :: l.drop (i + 1)) = if fn = n then some fv else valF n (l.drop (i + 1)) := rfl
      rw [hcons] at hv
      by_cases he : fn = n
      · rw [if_pos he] at hv
        have HV := Lib.hid (show valS n l = fv ∧ valB n l = true by unfold valS valB; rw [hv]; exact ⟨rfl, rfl⟩)
        have hne : (fn == n) = true := by simpa using he
        clear hdr hv hlt HI hcons he
        go_wp2_with fail
        go_ret2
        exact ⟨by rw [HV.out.1, HV.out.2]; rfl, HF0.out⟩
      · rw [if_neg he] at hv
        have HV := Lib.hid hv
        have hne : (fn == n) = false := by simpa using he
        clear hdr hv hlt HI he hcons
        go_wp2_with fail
        go_round
        case rel => exact ⟨i + 1, hi', by go_num, HV⟩
        case measure => simp [intOf]; omega
    · have q1 : (l.length : Int) ≤ (i : Int) := by omega
      have hv := HI.out
      rw [List.drop_eq_nil_of_le (by omega)] at hv
      have HV := Lib.hid (show valS n l = ⟨#[]⟩ ∧ valB n l = false by unfold valS valB; rw [hv]; exact ⟨rfl, rfl⟩)
      clear hv HI hlt
      go_wp2_with fail
      go_ret2
      exact ⟨by rw [HV.out.1, HV.out.2]; rfl, HF0.out⟩
end Go.Proofs.YthckgkghmlkcnaaDoor
