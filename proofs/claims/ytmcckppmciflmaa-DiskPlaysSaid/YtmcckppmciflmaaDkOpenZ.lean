/-
  THE DISK LAWS' ACTS OPENED, with their sizes.
-/
import Derived.Test.YtmcckppmciflmaaOpenZ
import Derived.Test.YtmcckppmciflmaaRdAct
namespace Go.Proofs.Ytmcckppmciflmaa
open Go.RowKit
open Go.ChangeShapes Go.WideShapes Go.Deep

theorem size_u8 : Try.prog.bytesOf 5 = 1 := by kernel_rfl
theorem size_int : Try.prog.bytesOf 3 = 8 := by kernel_rfl
section
variable {H : Type} {enc : TypeId × Value → H} {w : World} {base : Nat} {spare : Nat → Bool} {held : Bool}
theorem rows_bytesZ {n : Nat} {cs : List Value} {x : DataW H × List MemPlace} (h : DataW.trod enc Try.prog w base spare held n 23 cs = some x) (hz : Sz Try.prog 23 x.1) : ∃ ao cap, ∃ b : List UInt8, cs = [.slice ao b.length cap] ∧ RowRd ByteR w ao b ∧ b.length ≤ 140737488351232 := by
  obtain ⟨ao, cap, xs, hcs, hr, _, hl⟩ := open_rowsZ ByteR (fun _ => True) Try.underlying23 (by kernel_rfl) (by show 0 < 1; omega) (fun n cs y hl ht _ => mk_byte hl ht) h hz
  rw [size_u8] at hl
  have e : reachBytes = 140737488351232 := rfl
  exact ⟨ao, cap, xs, hcs, hr, by omega⟩
theorem rows_intsZ {n : Nat} {cs : List Value} {x : DataW H × List MemPlace} (h : DataW.trod enc Try.prog w base spare held n 29 cs = some x) (hz : Sz Try.prog 29 x.1) : ∃ ao cap, ∃ b : List Int, cs = [.slice ao b.length cap] ∧ RowRd IntR w ao b ∧ b.length * 8 ≤ 140737488351232 := by
  obtain ⟨ao, cap, xs, hcs, hr, _, hl⟩ := open_rowsZ IntR i64B Try.underlying29 (by kernel_rfl) (by show 0 < 1; omega) (fun n cs y hl ht _ => mk_int hl ht) h hz
  rw [size_int] at hl
  have e : reachBytes = 140737488351232 := rfl
  exact ⟨ao, cap, xs, hcs, hr, by omega⟩
theorem mk_dactZ {n : Nat} {cs : List Value} {y : DataW H × List MemPlace} (hl : cs.length = 5) (h : DataW.trod enc Try.prog w base spare held n 31 cs = some y) (hz : Sz Try.prog 31 y.1) : ∃ a : DAct, DActR.cells a = cs ∧ (a.Ok w ∧ a.Num) := by
  obtain ⟨m, hf⟩ := field_ofZ Try.underlying31 h hz
  obtain ⟨y0, t0, _⟩ := hf 0 0 3 1 rfl (by kernel_rfl)
  obtain ⟨y1, t1, _⟩ := hf 1 1 3 1 rfl (by kernel_rfl)
  obtain ⟨y2, t2, _⟩ := hf 2 2 3 1 rfl (by kernel_rfl)
  obtain ⟨y3, t3, z3⟩ := hf 3 3 23 1 rfl (by kernel_rfl)
  obtain ⟨y4, t4, z4⟩ := hf 4 4 29 1 rfl (by kernel_rfl)
  obtain ⟨n0, e0, _, h0⟩ := DataW.trod_int Try.underlying3 t0
  obtain ⟨n1, e1, _, h1⟩ := DataW.trod_int Try.underlying3 t1
  obtain ⟨n2, e2, _, h2⟩ := DataW.trod_int Try.underlying3 t2
  obtain ⟨bo, bc, b, e3, hb, lb⟩ := rows_bytesZ t3 z3
  obtain ⟨ko, kc, keep, e4, hk, lk⟩ := rows_intsZ t4 z4
  rcases cs with _ | ⟨c0, _ | ⟨c1, _ | ⟨c2, _ | ⟨c3, _ | ⟨c4, _ | ⟨c5, cs⟩⟩⟩⟩⟩⟩ <;> simp at hl
  simp at e0 e1 e2 e3 e4
  exact ⟨⟨n0, n1, n2, bo, bc, b, ko, kc, keep⟩, by rw [e0, e1, e2, e3, e4]; rfl, ⟨i64_wf h0, i64_wf h1, i64_wf h2, hb, hk⟩, ⟨i64_wf h1, i64_wf h2, lb, lk⟩⟩
end
set_option maxRecDepth 100000 in
/-- A ROW OF ACTS THAT CAME IN, with sizes. -/
theorem open_dactsZ {H : Type} {enc : TypeId × Value → H} {W : World} {base : Nat} {r : Reach} {v : Value} {d : DataW H} {p : List MemPlace} (hv : Value.okWide Try.prog W r base 22 v) (h : DataW.Trod enc Try.prog W 0 (fun _ => true) true 22 v d p) (hz : Sz Try.prog 22 d) :
    ∃ (ao : Option Addr) (cap : Nat) (xs : List DAct), v = .slice ao xs.length cap ∧ RowRd DActR W ao xs ∧ ∀ y ∈ xs, y.Ok W ∧ y.Num := by
  obtain ⟨a0, len0, cap0, rfl⟩ := okWide_slice Try.underlying22 hv
  obtain ⟨fuel, hf⟩ := h
  obtain ⟨ao, cap, xs, e, hr, hok, _⟩ := open_rowsZ DActR (fun a => a.Ok W ∧ a.Num) Try.underlying22 (by kernel_rfl) (by show 0 < 5; omega) (fun n cs y hl ht hz => mk_dactZ hl ht hz) hf hz
  simp [Value.cells] at e
  obtain ⟨rfl, rfl, rfl⟩ := e
  exact ⟨_, _, xs, rfl, hr, hok⟩
end Go.Proofs.Ytmcckppmciflmaa
