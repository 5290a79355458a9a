/-
  ROWS, MORE: many cells of a block written at once, 'clear' of a slice, a thing struck out of a row.
-/
import Derived.Deep.RegionLaw
import Derived.Laws.IdiomCopy
import Derived.Test.YtajhgejhdalobaaGreatDoorThing
namespace Go.Proofs.YtajhgejhdalobaaGreatDoor
open Go.RowKit

theorem heap_setCells {g : Nat} {t : TypeId} {fr : Nat × Nat} : ∀ (vs : List Value) (o : Nat) (w : World) (cur : Array Value), w.heap[g]? = some (.cells cur t fr) → o + vs.length ≤ cur.size →
    ∃ cur', (w.setCells g o vs).heap[g]? = some (.cells cur' t fr) ∧ cur'.size = cur.size ∧ cur'.toList = cur.toList.take o ++ vs ++ cur.toList.drop (o + vs.length) := by
  intro vs
  induction vs with
  | nil => intro o w cur h hl; exact ⟨cur, h, rfl, by simp⟩
  | cons v vs ih =>
    intro o w cur h hl
    simp only [List.length_cons] at hl
    obtain ⟨cur', h1, h2, h3⟩ := ih (o + 1) (w.setCell ⟨g, o, none⟩ v) (cur.setIfInBounds o v) (heap_set_eq h) (by simp; omega)
    refine ⟨cur', h1, by simpa using h2, ?_⟩
    rw [h3, Array.toList_setIfInBounds, List.take_set, List.drop_set_of_lt (by omega), List.length_cons, show o + 1 + vs.length = o + (vs.length + 1) by omega]
    congr 1
    rw [List.take_succ_eq_append_getElem (by simpa using (by omega : o < cur.size)), List.set_append_right _ _ (by simp; omega)]
    simp [show min o cur.size = o by omega]
theorem fr_setCells {S : Nat → Prop} {w0 w : World} (h : Fr S w0 w) {g o : Nat} (hg : S g ∨ w0.heap.size ≤ g) (vs : List Value) : Fr S w0 (w.setCells g o vs) := by
  induction vs generalizing o w with
  | nil => exact h
  | cons v vs ih => exact ih (h.setCell (p := ⟨g, o, none⟩) hg v)

theorem run_clear_row {P : Program} {t e : TypeId} (ht : P.underlying t = some (.slice e)) {z : Value} (hz : ∀ w, (zeroValue e).run P w = .ok z w) {w : World} {g o n c : Nat} {cur : Array Value} (hg : w.heap[g]? = some (.cells cur e (0, 0)))
    (hn : 0 < n) (hfit : o + n * z.cells.size ≤ cur.size) (h1 : ∀ v ∈ z.cells, v.oneCell' = true) :
    ∃ w' cur', (∀ ty, (Builtin.clear_ #[t] ty #[.slice (some ⟨g, o, none⟩) n c]).run P w = .ok (.tuple #[]) w') ∧ w'.heap[g]? = some (.cells cur' e (0, 0)) ∧ cur'.size = cur.size ∧ cur'.toList.take o = cur.toList.take o ∧ Fr (fun k => k = g) w w' := by
  have hl : (Builtin.zeroCells z.cells n).toList.length = n * z.cells.size := by simp [size_zeroCells]
  have hone : ∀ v ∈ (Builtin.zeroCells z.cells n).toList, v.oneCell' = true := by
    intro v hv
    simp [Builtin.zeroCells] at hv
    obtain ⟨i, hi, hv⟩ := hv
    have hp : 0 < z.cells.size := Nat.pos_of_ne_zero (fun e => by rw [e] at hi; omega)
    rw [getElem!_pos z.cells _ (Nat.mod_lt i hp)] at hv
    exact h1 v (hv ▸ Array.getElem_mem _)
  have hst := run_storeCells_at P g o e (Builtin.zeroCells z.cells n).toList 0 cur w hg (by rw [hl]; simpa using hfit) hone
  simp only [Nat.add_zero] at hst
  generalize hcs : (List.take o cur.toList ++ (Builtin.zeroCells z.cells n).toList ++ List.drop (o + (Builtin.zeroCells z.cells n).toList.length) cur.toList).toArray = cs at hst
  have hcs' := congrArg Array.toList hcs
  refine ⟨w.setRow g cs, cs, fun ty => ?_, setRow_heap w g cur cs e _ hg, ?_, ?_, ?_⟩
  · cases n with
    | zero => omega
    | succ n => simp [Builtin.clear_, run_underlying ht, hz, hst]
  · have := congrArg List.length hcs'
    simp [hl] at this
    omega
  · rw [← hcs']
    dsimp only
    rw [List.append_assoc, List.take_append_of_le_length (by simp; omega), List.take_take, Nat.min_self]
  · refine ⟨rfl, rfl, rfl, by simp [World.setRow], fun k hk hn => ?_⟩
    simp only [World.setRow, Array.getElem?_modify]
    rw [if_neg (fun e => hn e.symm)]

theorem flat_erase {α : Type} (R : Rec α) (xs : List α) (i : Nat) : R.flat (xs.eraseIdx i) = (R.flat xs).take (i * R.k) ++ (R.flat xs).drop ((i + 1) * R.k) := by
  rw [R.flat_take, R.flat_drop, ← R.flat_append, List.eraseIdx_eq_take_drop_succ]
end Go.Proofs.YtajhgejhdalobaaGreatDoor
