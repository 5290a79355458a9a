/-
  THE LAWS' ARGUMENTS OPENED: rows of acts, of uses; a rule; an act.
-/
import Derived.Test.YtkcepppldhaiaaaLmLaw
import Derived.Test.YtkcepppldhaiaaaOpenR
namespace Go.Proofs.Ytkcepppldhaiaaa
open Go.RowKit
open Go.ChangeShapes Go.WideShapes Go.Deep

section
variable {H : Type} {enc : TypeId × Value → H} {w : World} {base : Nat} {spare : Nat → Bool} {held : Bool}
theorem mk_rule {n : Nat} {cs : List Value} {y : DataW H × List MemPlace} (hl : cs.length = 4) (h : DataW.trod enc Try.prog w base spare held n 23 cs = some y) : ∃ r : Rule, cs = [.int .i64 r.ticks, .int .i64 r.times, .int .i64 r.sum, .int .i64 r.once] := by
  obtain ⟨m, hf⟩ := field_of Try.underlying23 h
  obtain ⟨y0, t0⟩ := hf 0 0 3 1 rfl (by kernel_rfl)
  obtain ⟨y1, t1⟩ := hf 1 1 3 1 rfl (by kernel_rfl)
  obtain ⟨y2, t2⟩ := hf 2 2 3 1 rfl (by kernel_rfl)
  obtain ⟨y3, t3⟩ := hf 3 3 3 1 rfl (by kernel_rfl)
  obtain ⟨n0, e0, _, _⟩ := DataW.trod_int Try.underlying3 t0
  obtain ⟨n1, e1, _, _⟩ := DataW.trod_int Try.underlying3 t1
  obtain ⟨n2, e2, _, _⟩ := DataW.trod_int Try.underlying3 t2
  obtain ⟨n3, e3, _, _⟩ := DataW.trod_int Try.underlying3 t3
  rcases cs with _ | ⟨c0, _ | ⟨c1, _ | ⟨c2, _ | ⟨c3, _ | ⟨c4, cs⟩⟩⟩⟩⟩ <;> simp at hl
  simp at e0 e1 e2 e3
  exact ⟨⟨n0, n1, n2, n3⟩, by rw [e0, e1, e2, e3]⟩

theorem mk_use {n : Nat} {cs : List Value} {y : DataW H × List MemPlace} (hl : cs.length = 4) (h : DataW.trod enc Try.prog w base spare held n 40 cs = some y) : ∃ u : Use, UseR.cells u = cs ∧ u.card.size ≤ maxLen := by
  obtain ⟨m, hf⟩ := field_of Try.underlying40 h
  obtain ⟨y0, t0⟩ := hf 0 0 9 1 rfl (by kernel_rfl)
  obtain ⟨y1, t1⟩ := hf 1 1 3 1 rfl (by kernel_rfl)
  obtain ⟨y2, t2⟩ := hf 2 2 3 1 rfl (by kernel_rfl)
  obtain ⟨y3, t3⟩ := hf 3 3 3 1 rfl (by kernel_rfl)
  obtain ⟨n0, e0, _, w0⟩ := DataW.trod_string Try.underlying9 t0
  obtain ⟨n1, e1, _, _⟩ := DataW.trod_int Try.underlying3 t1
  obtain ⟨n2, e2, _, _⟩ := DataW.trod_int Try.underlying3 t2
  obtain ⟨n3, e3, _, _⟩ := DataW.trod_int Try.underlying3 t3
  rcases cs with _ | ⟨c0, _ | ⟨c1, _ | ⟨c2, _ | ⟨c3, _ | ⟨c4, cs⟩⟩⟩⟩⟩ <;> simp at hl
  simp at e0 e1 e2 e3
  exact ⟨⟨n0, n1, n2, n3⟩, by rw [e0, e1, e2, e3]; rfl, w0⟩

theorem mk_act {n : Nat} {cs : List Value} {y : DataW H × List MemPlace} (hl : cs.length = 8) (h : DataW.trod enc Try.prog w base spare held n 30 cs = some y) : ∃ a : LAct, ActR.cells a = cs := by
  obtain ⟨m, hf⟩ := field_of Try.underlying30 h
  obtain ⟨y0, t0⟩ := hf 0 0 3 1 rfl (by kernel_rfl)
  obtain ⟨y1, t1⟩ := hf 1 1 23 4 rfl (by kernel_rfl)
  obtain ⟨y2, t2⟩ := hf 2 5 9 1 rfl (by kernel_rfl)
  obtain ⟨y3, t3⟩ := hf 3 6 3 1 rfl (by kernel_rfl)
  obtain ⟨y4, t4⟩ := hf 4 7 3 1 rfl (by kernel_rfl)
  rcases cs with _ | ⟨c0, _ | ⟨c1, _ | ⟨c2, _ | ⟨c3, _ | ⟨c4, _ | ⟨c5, _ | ⟨c6, _ | ⟨c7, _ | ⟨c8, cs⟩⟩⟩⟩⟩⟩⟩⟩⟩ <;> simp at hl
  obtain ⟨n0, e0, _, _⟩ := DataW.trod_int Try.underlying3 t0
  obtain ⟨n2, e2, _, _⟩ := DataW.trod_string Try.underlying9 t2
  obtain ⟨n3, e3, _, _⟩ := DataW.trod_int Try.underlying3 t3
  obtain ⟨n4, e4, _, _⟩ := DataW.trod_int Try.underlying3 t4
  obtain ⟨r, e1⟩ := mk_rule (by simp) t1
  simp at e0 e1 e2 e3 e4
  obtain ⟨e1a, e1b, e1c, e1d⟩ := e1
  exact ⟨⟨n0, r, n2, n3, n4⟩, by rw [e0, e1a, e1b, e1c, e1d, e2, e3, e4]; rfl⟩

end

instance : Inhabited LAct := ⟨⟨0, ⟨0, 0, 0, 0⟩, .empty, 0, 0⟩⟩
instance : Inhabited Use := ⟨⟨.empty, 0, 0, 0⟩⟩

/-- A ROW OF ACTS THAT CAME IN. -/
theorem open_acts {H : Type} {enc : TypeId × Value → H} {W : World} {base : Nat} {r : Reach} {v : Value} {d : DataW H} {p : List MemPlace} (hv : Value.okWide Try.prog W r base 24 v) (h : DataW.Trod enc Try.prog W 0 (fun _ => true) true 24 v d p) :
    ∃ (ao : Option Addr) (cap : Nat) (xs : List LAct), v = .slice ao xs.length cap ∧ RowRd ActR W ao xs := by
  obtain ⟨a0, len0, cap0, rfl⟩ := okWide_slice Try.underlying24 hv
  obtain ⟨fuel, hf⟩ := h
  rcases open_rows ActR (fun _ => True) Try.underlying24 (by kernel_rfl) (by show 0 < 8; omega) (fun n cs y hl ht => by obtain ⟨a, ha⟩ := mk_act hl ht; exact ⟨a, ha, trivial⟩) hf with ⟨hcs, _⟩ | ⟨a, cap, xs, hcs, _, _, hr, _⟩
  · simp [Value.cells] at hcs
    obtain ⟨rfl, rfl, rfl⟩ := hcs
    exact ⟨none, 0, [], rfl, RowRd.nil⟩
  · simp [Value.cells] at hcs
    obtain ⟨rfl, rfl, rfl⟩ := hcs
    exact ⟨some a, cap0, xs, rfl, hr⟩
/-- A ROW OF USES THAT CAME IN. -/
theorem open_uses {H : Type} {enc : TypeId × Value → H} {W : World} {base : Nat} {r : Reach} {v : Value} {d : DataW H} {p : List MemPlace} (hv : Value.okWide Try.prog W r base 31 v) (h : DataW.Trod enc Try.prog W 0 (fun _ => true) true 31 v d p) :
    ∃ (ao : Option Addr) (cap : Nat) (us : List Use), v = .slice ao us.length cap ∧ RowRd UseR W ao us ∧ (ao = none → us = [] ∧ cap = 0) ∧ (us = [] ∨ ∃ elems spare, d = .slice elems spare ∧ elems.length = us.length) := by
  obtain ⟨a0, len0, cap0, rfl⟩ := okWide_slice Try.underlying31 hv
  obtain ⟨fuel, hf⟩ := h
  rcases open_rows UseR (fun u => u.card.size ≤ maxLen) Try.underlying31 (by kernel_rfl) (by show 0 < 4; omega) (fun n cs y hl ht => mk_use hl ht) hf with ⟨hcs, _⟩ | ⟨a, cap, xs, hcs, _, _, hr, _, he⟩
  · simp [Value.cells] at hcs
    obtain ⟨rfl, rfl, rfl⟩ := hcs
    exact ⟨none, 0, [], rfl, RowRd.nil, fun _ => ⟨rfl, rfl⟩, .inl rfl⟩
  · simp [Value.cells] at hcs
    obtain ⟨rfl, rfl, rfl⟩ := hcs
    exact ⟨some a, cap0, xs, rfl, hr, (fun h => by cases h), .inr he⟩
/-- A RULE. -/
theorem open_rule {H : Type} {enc : TypeId × Value → H} {W : World} {base : Nat} {r : Reach} {v : Value} {d : DataW H} {p : List MemPlace} (hv : Value.okWide Try.prog W r base 23 v) (h : DataW.Trod enc Try.prog W 0 (fun _ => true) true 23 v d p) : ∃ q : Rule, v = q.val := by
  obtain ⟨cs, rfl, hs⟩ := okWide_struct Try.underlying23 hv
  obtain ⟨fuel, hf⟩ := h
  rw [show Try.prog.cellsOf 23 = 4 by kernel_rfl] at hs
  obtain ⟨q, hq⟩ := mk_rule (by simpa [Value.cells] using hs) hf
  have : cs = #[.int .i64 q.ticks, .int .i64 q.times, .int .i64 q.sum, .int .i64 q.once] := by
    apply Array.toList_inj.1
    simpa [Value.cells] using hq
  exact ⟨q, by rw [this]; rfl⟩
/-- AN ACT. -/
theorem open_act {H : Type} {enc : TypeId × Value → H} {W : World} {base : Nat} {r : Reach} {v : Value} {d : DataW H} {p : List MemPlace} (hv : Value.okWide Try.prog W r base 30 v) (h : DataW.Trod enc Try.prog W 0 (fun _ => true) true 30 v d p) : ∃ q : LAct, v = q.val := by
  obtain ⟨cs, rfl, hs⟩ := okWide_struct Try.underlying30 hv
  obtain ⟨fuel, hf⟩ := h
  rw [show Try.prog.cellsOf 30 = 8 by kernel_rfl] at hs
  obtain ⟨q, hq⟩ := mk_act (by simpa [Value.cells] using hs) hf
  have : cs = #[.int .i64 q.op, .int .i64 q.r.ticks, .int .i64 q.r.times, .int .i64 q.r.sum, .int .i64 q.r.once, .string q.card, .int .i64 q.amount, .int .i64 q.at_] := by
    apply Array.toList_inj.1
    simpa [Value.cells, ActR, LAct.cells] using hq.symm
  exact ⟨q, by rw [this]; rfl⟩
end Go.Proofs.Ytkcepppldhaiaaa
