/-
  ROWS OF BYTES AND INTS OPENED, with their sizes.
-/
import Derived.Test.YtmcckppmciflmaaOpenZ
import Derived.Test.YtmcckppmciflmaaDkOpen
namespace Go.Proofs.Ytmcckppmciflmaa
open Go.RowKit
open Go.ChangeShapes Go.WideShapes Go.Deep

theorem size_u8 : Try.prog.bytesOf 5 = 1 := by kernel_rfl
theorem size_int : Try.prog.bytesOf 3 = 8 := by kernel_rfl
section
variable {H : Type} {enc : TypeId × Value → H} {w : World} {base : Nat} {spare : Nat → Bool} {held : Bool}
theorem rows_bytesZ {n : Nat} {cs : List Value} {x : DataW H × List MemPlace} (h : DataW.trod enc Try.prog w base spare held n 23 cs = some x) (hz : Sz Try.prog 23 x.1) : ∃ ao cap, ∃ b : List UInt8, cs = [.slice ao b.length cap] ∧ RowRd ByteR w ao b ∧ b.length ≤ 140737488351232 := by
  obtain ⟨ao, cap, xs, hcs, hr, _, hl⟩ := open_rowsZ ByteR (fun _ => True) Try.underlying23 (by kernel_rfl) (by show 0 < 1; omega) (fun n cs y hl ht _ => mk_byte hl ht) h hz
  rw [size_u8] at hl
  have e : reachBytes = 140737488351232 := rfl
  exact ⟨ao, cap, xs, hcs, hr, by omega⟩
theorem rows_intsZ {n : Nat} {cs : List Value} {x : DataW H × List MemPlace} (h : DataW.trod enc Try.prog w base spare held n 29 cs = some x) (hz : Sz Try.prog 29 x.1) : ∃ ao cap, ∃ b : List Int, cs = [.slice ao b.length cap] ∧ RowRd IntR w ao b ∧ b.length * 8 ≤ 140737488351232 := by
  obtain ⟨ao, cap, xs, hcs, hr, _, hl⟩ := open_rowsZ IntR i64B Try.underlying29 (by kernel_rfl) (by show 0 < 1; omega) (fun n cs y hl ht _ => mk_int hl ht) h hz
  rw [size_int] at hl
  have e : reachBytes = 140737488351232 := rfl
  exact ⟨ao, cap, xs, hcs, hr, by omega⟩
end
end Go.Proofs.Ytmcckppmciflmaa
