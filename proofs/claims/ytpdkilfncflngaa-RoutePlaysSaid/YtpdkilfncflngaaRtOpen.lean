/-
  THE LAWS' ARGUMENTS OPENED: a row of acts.
-/
import Derived.Test.YtpdkilfncflngaaRtLaw
import Derived.Test.YtpdkilfncflngaaOpenR
namespace Go.Proofs.Ytpdkilfncflngaa
open Go.RowKit
open Go.ChangeShapes Go.WideShapes Go.Deep

theorem mk_act {H : Type} {enc : TypeId × Value → H} {w : World} {base : Nat} {spare : Nat → Bool} {held : Bool} {n : Nat} {cs : List Value} {y : DataW H × List MemPlace} (hl : cs.length = 3) (h : DataW.trod enc Try.prog w base spare held n 34 cs = some y) : ∃ a : LAct, ActR.cells a = cs ∧ a.s.size ≤ maxLen := by
  obtain ⟨m, hf⟩ := field_of Try.underlying34 h
  obtain ⟨y0, t0⟩ := hf 0 0 3 1 rfl (by kernel_rfl)
  obtain ⟨y1, t1⟩ := hf 1 1 3 1 rfl (by kernel_rfl)
  obtain ⟨y2, t2⟩ := hf 2 2 9 1 rfl (by kernel_rfl)
  obtain ⟨n0, e0, _, _⟩ := DataW.trod_int Try.underlying3 t0
  obtain ⟨n1, e1, _, _⟩ := DataW.trod_int Try.underlying3 t1
  obtain ⟨n2, e2, _, w2⟩ := DataW.trod_string Try.underlying9 t2
  rcases cs with _ | ⟨c0, _ | ⟨c1, _ | ⟨c2, _ | ⟨c3, cs⟩⟩⟩⟩ <;> simp at hl
  simp at e0 e1 e2
  exact ⟨⟨n0, n1, n2⟩, by rw [e0, e1, e2]; rfl, w2⟩

/-- A ROW OF ACTS THAT CAME IN. -/
theorem open_acts {H : Type} {enc : TypeId × Value → H} {W : World} {base : Nat} {r : Reach} {v : Value} {d : DataW H} {p : List MemPlace} (hv : Value.okWide Try.prog W r base 30 v) (h : DataW.Trod enc Try.prog W 0 (fun _ => true) true 30 v d p) :
    ∃ (ao : Option Addr) (cap : Nat) (xs : List LAct), v = .slice ao xs.length cap ∧ RowRd ActR W ao xs ∧ ∀ y ∈ xs, y.s.size ≤ maxLen := by
  obtain ⟨a0, len0, cap0, rfl⟩ := okWide_slice Try.underlying30 hv
  obtain ⟨fuel, hf⟩ := h
  rcases open_rows ActR (fun a => a.s.size ≤ maxLen) Try.underlying30 (by kernel_rfl) (by show 0 < 3; omega) (fun n cs y hl ht => mk_act hl ht) hf with ⟨hcs, _⟩ | ⟨a, cap, xs, hcs, _, _, hr, hok, _⟩
  · simp [Value.cells] at hcs
    obtain ⟨rfl, rfl, rfl⟩ := hcs
    exact ⟨none, 0, [], rfl, RowRd.nil, by simp⟩
  · simp [Value.cells] at hcs
    obtain ⟨rfl, rfl, rfl⟩ := hcs
    exact ⟨some a, cap0, xs, rfl, hr, hok⟩
end Go.Proofs.Ytpdkilfncflngaa
