/-
  copy(dst, src) of rows of things (of k cells): dst a piece of a block, src whatever is read: its run, at the operation, at a step of a region that draws.
-/
import Derived.Deep.RegionLaw
import Derived.Laws.IdiomCopy
import Derived.Laws.CopyRow
import Derived.Test.YthckgkghmlkcnaaDoorApp
namespace Go.Proofs.YthckgkghmlkcnaaDoor
open Go.RowKit

theorem heap_setCells {g : Nat} {t : TypeId} {fr : Nat × Nat} : ∀ (vs : List Value) (o : Nat) (w : World) (cur : Array Value), w.heap[g]? = some (.cells cur t fr) → o + vs.length ≤ cur.size →
    ∃ cur', (w.setCells g o vs).heap[g]? = some (.cells cur' t fr) ∧ cur'.size = cur.size ∧ cur'.toList = cur.toList.take o ++ vs ++ cur.toList.drop (o + vs.length) := by
  intro vs
  induction vs with
  | nil => intro o w cur h hl; exact ⟨cur, h, rfl, by simp⟩
  | cons v vs ih =>
    intro o w cur h hl
    simp only [List.length_cons] at hl
    obtain ⟨cur', h1, h2, h3⟩ := ih (o + 1) (w.setCell ⟨g, o, none⟩ v) (cur.setIfInBounds o v) (heap_set_eq h) (by simp; omega)
    refine ⟨cur', h1, by simpa using h2, ?_⟩
    rw [h3, Array.toList_setIfInBounds, List.take_set, List.drop_set_of_lt (by omega), List.length_cons, show o + 1 + vs.length = o + (vs.length + 1) by omega]
    congr 1
    rw [List.take_succ_eq_append_getElem (by simpa using (by omega : o < cur.size)), List.set_append_right _ _ (by simp; omega)]
    simp [show min o cur.size = o by omega]
theorem fr_setCells {S : Nat → Prop} {w0 w : World} (h : Fr S w0 w) {g o : Nat} (hg : S g ∨ w0.heap.size ≤ g) (vs : List Value) : Fr S w0 (w.setCells g o vs) := by
  induction vs generalizing o w with
  | nil => exact h
  | cons v vs ih => exact ih (h.setCell (p := ⟨g, o, none⟩) hg v)

theorem run_clear_row {P : Program} {t e : TypeId} (ht : P.underlying t = some (.slice e)) {z : Value} (hz : ∀ w, (zeroValue e).run P w = .ok z w) {w : World} {g o n c : Nat} {cur : Array Value} (hg : w.heap[g]? = some (.cells cur e (0, 0)))
    (hn : 0 < n) (hfit : o + n * z.cells.size ≤ cur.size) (h1 : ∀ v ∈ z.cells, v.oneCell' = true) :
    ∃ w' cur', (∀ ty, (Builtin.clear_ #[t] ty #[.slice (some ⟨g, o, none⟩) n c]).run P w = .ok (.tuple #[]) w') ∧ w'.heap[g]? = some (.cells cur' e (0, 0)) ∧ cur'.size = cur.size ∧ cur'.toList.take o = cur.toList.take o ∧ Fr (fun k => k = g) w w' := by
  have hl : (Builtin.zeroCells z.cells n).toList.length = n * z.cells.size := by simp [size_zeroCells]
  have hone : ∀ v ∈ (Builtin.zeroCells z.cells n).toList, v.oneCell' = true := by
    intro v hv
    simp [Builtin.zeroCells] at hv
    obtain ⟨i, hi, hv⟩ := hv
    have hp : 0 < z.cells.size := Nat.pos_of_ne_zero (fun e => by rw [e] at hi; omega)
    rw [getElem!_pos z.cells _ (Nat.mod_lt i hp)] at hv
    exact h1 v (hv ▸ Array.getElem_mem _)
  have hst := run_storeCells_at P g o e (Builtin.zeroCells z.cells n).toList 0 cur w hg (by rw [hl]; simpa using hfit) hone
  simp only [Nat.add_zero] at hst
  generalize hcs : (List.take o cur.toList ++ (Builtin.zeroCells z.cells n).toList ++ List.drop (o + (Builtin.zeroCells z.cells n).toList.length) cur.toList).toArray = cs at hst
  have hcs' := congrArg Array.toList hcs
  refine ⟨w.setRow g cs, cs, fun ty => ?_, setRow_heap w g cur cs e _ hg, ?_, ?_, ?_⟩
  · cases n with
    | zero => omega
    | succ n => simp [Builtin.clear_, run_underlying ht, hz, hst]
  · have := congrArg List.length hcs'
    simp [hl] at this
    omega
  · rw [← hcs']
    dsimp only
    rw [List.append_assoc, List.take_append_of_le_length (by simp; omega), List.take_take, Nat.min_self]
  · refine ⟨rfl, rfl, rfl, by simp [World.setRow], fun k hk hn => ?_⟩
    simp only [World.setRow, Array.getElem?_modify]
    rw [if_neg (fun e => hn e.symm)]

/-- a thing struck out: the row behind it has moved -/
theorem flat_erase {α : Type} (R : Rec α) (xs : List α) (i : Nat) : R.flat (xs.eraseIdx i) = (R.flat xs).take (i * R.k) ++ (R.flat xs).drop ((i + 1) * R.k) := by
  rw [R.flat_take, R.flat_drop, ← R.flat_append, List.eraseIdx_eq_take_drop_succ]
end Go.Proofs.YthckgkghmlkcnaaDoor
namespace Go.Proofs.YthckgkghmlkcnaaDoor
open Go.RowKit

section
variable {α : Type} {R : Rec α} {P : Program} {t E : TypeId} {bytes : Nat}
theorem run_copyR (el : Elem P t E R.k bytes) {w : World} {g : Nat} {cur : Array Value} (hg : w.heap[g]? = some (.cells cur E (0, 0))) {sp dp : Option Addr} {ys : List α} (hs : RowRd R w sp ys) (o dLen dCap sLen sCap : Nat) (hm : ys.length = min sLen dLen) (hdp : 0 < ys.length → dp = some ⟨g, o * R.k, none⟩) (hfit : (o + ys.length) * R.k ≤ cur.size) (ty : TypeId) :
    ∃ w' cur', (Builtin.copy_ #[t, t] ty #[.slice dp dLen dCap, .slice sp sLen sCap]).run P w = .ok (goInt ys.length) w' ∧ w'.heap[g]? = some (.cells cur' E (0, 0)) ∧ cur'.size = cur.size ∧ cur'.toList = cur.toList.take (o * R.k) ++ R.flat ys ++ cur.toList.drop ((o + ys.length) * R.k) ∧ Fr (fun k => k = g) w w' := by
  obtain ⟨i, z, hi, hz, hsz, hby, hzs⟩ := el.info
  by_cases h0 : ys.length = 0
  · have e := List.eq_nil_of_length_eq_zero h0
    subst e
    refine ⟨w, cur, ?_, hg, rfl, by simp [Rec.flat], Fr.refl _ _⟩
    have hm0 : min sLen dLen = 0 := hm.symm
    cases dp <;> cases sp <;> simp [Builtin.copy_, run_underlying el.ht, Builtin.lenOf, Builtin.firstCells, sizeOf, typeInfo, hi, hm0, loadCells, loadCellsFrom, storeCells]
  · obtain rfl := hdp (by omega)
    have hl := R.flat_len ys
    cases sp with
    | none =>
      exfalso
      obtain ⟨b, off, e, _⟩ := hs.at' 0 (by omega)
      cases e
    | some a =>
      have hload := run_loadCells_list (P := P) (w := w) a (R.flat ys) hs.cells
      rw [hl] at hload
      rw [Nat.add_mul] at hfit
      have hst := run_storeCells_at (P := P) g (o * R.k) E (R.flat ys) 0 cur w hg (by rw [hl]; omega) (R.flat_oneCell ys)
      refine ⟨w.setRow g (cur.toList.take (o * R.k + 0) ++ R.flat ys ++ cur.toList.drop (o * R.k + 0 + (R.flat ys).length)).toArray, _, ?_, setRow_heap w g cur _ E _ hg, ?_, ?_, ?_⟩
      · simp [Builtin.copy_, run_underlying el.ht, Builtin.lenOf, Builtin.firstCells, sizeOf, typeInfo, hi, hsz, ← hm, hload, hst]
      · simp only [Nat.add_zero, List.size_toArray, List.length_append, List.length_take, List.length_drop, hl, Array.length_toList]
        omega
      · simp only [Nat.add_zero, hl, Nat.add_mul]
      · refine ⟨rfl, rfl, rfl, by simp [World.setRow], fun k hk hn => ?_⟩
        simp only [World.setRow, Array.getElem?_modify]
        rw [if_neg (fun e => hn e.symm)]
theorem wp_copyR {o : Oper} {a : Act} {w : World} {K : Act → World → Prop} {Q : Exit → Act → World → Prop} (d s : Operand) (ho : o.op = .call { callee := .builtin .copy, args := #[d, s], argTypes := #[t, t] })
    (el : Elem P t E R.k bytes) {g : Nat} {cur : Array Value} (hg : w.heap[g]? = some (.cells cur E (0, 0))) {ys : List α} (q : Nat) {dLen dCap sLen sCap : Nat} {dp sp : Option Addr} (ed : a.eval d = .slice dp dLen dCap) (es : a.eval s = .slice sp sLen sCap) (hs : RowRd R w sp ys) (hm : ys.length = min sLen dLen) (hdp : 0 < ys.length → dp = some ⟨g, q * R.k, none⟩) (hfit : (q + ys.length) * R.k ≤ cur.size)
    (h : ∀ w' cur', w'.heap[g]? = some (.cells cur' E (0, 0)) → cur'.size = cur.size → cur'.toList = cur.toList.take (q * R.k) ++ R.flat ys ++ cur.toList.drop ((q + ys.length) * R.k) → Fr (fun k => k = g) w w' → K (a.put o.dst (.int .i64 (ys.length : Int))) w') : o.wp P a w K Q := by
  obtain ⟨w', cur', hrun, h2, h3, h4, h5⟩ := run_copyR el hg hs q dLen dCap sLen sCap hm hdp hfit o.type
  unfold Oper.wp execOp
  simp only [ho, resolve, invoke, builtin, Sem.run_bind, Sem.run_pure, Result.andThen_ok, List.map_toArray, List.map_cons, List.map_nil, ed, es, hrun]
  exact h w' cur' h2 h3 h4 h5
theorem wpList_copyR {ops : Array Oper} {rest : List Oper} {o : Oper} {a : Act} {w : World} {Q : Exit → Act → World → Prop} (hgd : o.guard = none) (d s : Operand) (ho : o.op = .call { callee := .builtin .copy, args := #[d, s], argTypes := #[t, t] })
    (el : Elem P t E R.k bytes) {g : Nat} {cur : Array Value} (hg : w.heap[g]? = some (.cells cur E (0, 0))) {ys : List α} (q : Nat) {dLen dCap sLen sCap : Nat} {dp sp : Option Addr} (ed : a.eval d = .slice dp dLen dCap) (es : a.eval s = .slice sp sLen sCap) (hs : RowRd R w sp ys) (hm : ys.length = min sLen dLen) (hdp : 0 < ys.length → dp = some ⟨g, q * R.k, none⟩) (hfit : (q + ys.length) * R.k ≤ cur.size)
    (h : ∀ w' cur', w'.heap[g]? = some (.cells cur' E (0, 0)) → cur'.size = cur.size → cur'.toList = cur.toList.take (q * R.k) ++ R.flat ys ++ cur.toList.drop ((q + ys.length) * R.k) → Fr (fun k => k = g) w w' → wpList P ops Q rest (a.put o.dst (.int .i64 (ys.length : Int))) w') : wpList P ops Q (o :: rest) a w :=
  wpList_plain hgd fun _ hK => wp_copyR d s ho el hg q ed es hs hm hdp hfit fun w' cur' h2 h3 h4 h5 => hK _ _ (h w' cur' h2 h3 h4 h5)
theorem step_copyR {ops : Array Oper} {o : Oper} {a : Act} {w : World} {K : Act → World → Prop} {Q : Exit → Act → World → Prop} {G : Prop} (hgd : o.guard = none) (d s : Operand) (ho : o.op = .call { callee := .builtin .copy, args := #[d, s], argTypes := #[t, t] })
    (el : Elem P t E R.k bytes) {g : Nat} {cur : Array Value} (hg : w.heap[g]? = some (.cells cur E (0, 0))) {ys : List α} (q : Nat) {dLen dCap sLen sCap : Nat} {dp sp : Option Addr} (ed : a.eval d = .slice dp dLen dCap) (es : a.eval s = .slice sp sLen sCap) (hs : RowRd R w sp ys) (hm : ys.length = min sLen dLen) (hdp : 0 < ys.length → dp = some ⟨g, q * R.k, none⟩) (hfit : (q + ys.length) * R.k ≤ cur.size)
    (h : ∀ w' cur', w'.heap[g]? = some (.cells cur' E (0, 0)) → cur'.size = cur.size → cur'.toList = cur.toList.take (q * R.k) ++ R.flat ys ++ cur.toList.drop ((q + ys.length) * R.k) → Fr (fun k => k = g) w w' → K (a.put o.dst (.int .i64 (ys.length : Int))) w') :
    if Region.wanted o (yielded ops a.tmps) = true then Oper.wp P o a w K Q else G := by
  have hw : Region.wanted o (yielded ops a.tmps) = true := by simp [Region.wanted, hgd]
  rw [if_pos hw]
  exact wp_copyR d s ho el hg q ed es hs hm hdp hfit h
end
end Go.Proofs.YthckgkghmlkcnaaDoor
