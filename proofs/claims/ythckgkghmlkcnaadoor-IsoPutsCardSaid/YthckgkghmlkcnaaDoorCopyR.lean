/-
  copy(dst, src) of rows of things (of k cells): dst a piece of a block, src whatever is read: its run, at the operation, at a step of a region that draws.
-/
import Derived.Test.YthckgkghmlkcnaaDoorApp
import Derived.Test.YthckgkghmlkcnaaDoorRow2
import Derived.Laws.CopyRow
namespace Go.Proofs.YthckgkghmlkcnaaDoor
open Go.RowKit

section
variable {α : Type} {R : Rec α} {P : Program} {t E : TypeId} {bytes : Nat}
theorem run_copyR (el : Elem P t E R.k bytes) {w : World} {g : Nat} {cur : Array Value} (hg : w.heap[g]? = some (.cells cur E (0, 0))) {sp dp : Option Addr} {ys : List α} (hs : RowRd R w sp ys) (o dLen dCap sLen sCap : Nat) (hm : ys.length = min sLen dLen) (hdp : 0 < ys.length → dp = some ⟨g, o * R.k, none⟩) (hfit : (o + ys.length) * R.k ≤ cur.size) (ty : TypeId) :
    ∃ w' cur', (Builtin.copy_ #[t, t] ty #[.slice dp dLen dCap, .slice sp sLen sCap]).run P w = .ok (goInt ys.length) w' ∧ w'.heap[g]? = some (.cells cur' E (0, 0)) ∧ cur'.size = cur.size ∧ cur'.toList = cur.toList.take (o * R.k) ++ R.flat ys ++ cur.toList.drop ((o + ys.length) * R.k) ∧ Fr (fun k => k = g) w w' := by
  obtain ⟨i, z, hi, hz, hsz, hby, hzs⟩ := el.info
  by_cases h0 : ys.length = 0
  · have e := List.eq_nil_of_length_eq_zero h0
    subst e
    refine ⟨w, cur, ?_, hg, rfl, by simp [Rec.flat], Fr.refl _ _⟩
    have hm0 : min sLen dLen = 0 := hm.symm
    cases dp <;> cases sp <;> simp [Builtin.copy_, run_underlying el.ht, Builtin.lenOf, Builtin.firstCells, sizeOf, typeInfo, hi, hm0, loadCells, loadCellsFrom, storeCells]
  · obtain rfl := hdp (by omega)
    have hl := R.flat_len ys
    cases sp with
    | none =>
      exfalso
      obtain ⟨b, off, e, _⟩ := hs.at' 0 (by omega)
      cases e
    | some a =>
      have hload := run_loadCells_list (P := P) (w := w) a (R.flat ys) hs.cells
      rw [hl] at hload
      rw [Nat.add_mul] at hfit
      have hst := run_storeCells_at (P := P) g (o * R.k) E (R.flat ys) 0 cur w hg (by rw [hl]; omega) (R.flat_oneCell ys)
      refine ⟨w.setRow g (cur.toList.take (o * R.k + 0) ++ R.flat ys ++ cur.toList.drop (o * R.k + 0 + (R.flat ys).length)).toArray, _, ?_, setRow_heap w g cur _ E _ hg, ?_, ?_, ?_⟩
      · simp [Builtin.copy_, run_underlying el.ht, Builtin.lenOf, Builtin.firstCells, sizeOf, typeInfo, hi, hsz, ← hm, hload, hst]
      · simp only [Nat.add_zero, List.size_toArray, List.length_append, List.length_take, List.length_drop, hl, Array.length_toList]
        omega
      · simp only [Nat.add_zero, hl, Nat.add_mul]
      · refine ⟨rfl, rfl, rfl, by simp [World.setRow], fun k hk hn => ?_⟩
        simp only [World.setRow, Array.getElem?_modify]
        rw [if_neg (fun e => hn e.symm)]
theorem wp_copyR {o : Oper} {a : Act} {w : World} {K : Act → World → Prop} {Q : Exit → Act → World → Prop} (d s : Operand) (ho : o.op = .call { callee := .builtin .copy, args := #[d, s], argTypes := #[t, t] })
    (el : Elem P t E R.k bytes) {g : Nat} {cur : Array Value} (hg : w.heap[g]? = some (.cells cur E (0, 0))) {ys : List α} (q : Nat) {dLen dCap sLen sCap : Nat} {dp sp : Option Addr} (ed : a.eval d = .slice dp dLen dCap) (es : a.eval s = .slice sp sLen sCap) (hs : RowRd R w sp ys) (hm : ys.length = min sLen dLen) (hdp : 0 < ys.length → dp = some ⟨g, q * R.k, none⟩) (hfit : (q + ys.length) * R.k ≤ cur.size)
    (h : ∀ w' cur', w'.heap[g]? = some (.cells cur' E (0, 0)) → cur'.size = cur.size → cur'.toList = cur.toList.take (q * R.k) ++ R.flat ys ++ cur.toList.drop ((q + ys.length) * R.k) → Fr (fun k => k = g) w w' → K (a.put o.dst (.int .i64 (ys.length : Int))) w') : o.wp P a w K Q := by
  obtain ⟨w', cur', hrun, h2, h3, h4, h5⟩ := run_copyR el hg hs q dLen dCap sLen sCap hm hdp hfit o.type
  unfold Oper.wp execOp
  simp only [ho, resolve, invoke, builtin, Sem.run_bind, Sem.run_pure, Result.andThen_ok, List.map_toArray, List.map_cons, List.map_nil, ed, es, hrun]
  exact h w' cur' h2 h3 h4 h5
theorem wpList_copyR {ops : Array Oper} {rest : List Oper} {o : Oper} {a : Act} {w : World} {Q : Exit → Act → World → Prop} (hgd : o.guard = none) (d s : Operand) (ho : o.op = .call { callee := .builtin .copy, args := #[d, s], argTypes := #[t, t] })
    (el : Elem P t E R.k bytes) {g : Nat} {cur : Array Value} (hg : w.heap[g]? = some (.cells cur E (0, 0))) {ys : List α} (q : Nat) {dLen dCap sLen sCap : Nat} {dp sp : Option Addr} (ed : a.eval d = .slice dp dLen dCap) (es : a.eval s = .slice sp sLen sCap) (hs : RowRd R w sp ys) (hm : ys.length = min sLen dLen) (hdp : 0 < ys.length → dp = some ⟨g, q * R.k, none⟩) (hfit : (q + ys.length) * R.k ≤ cur.size)
    (h : ∀ w' cur', w'.heap[g]? = some (.cells cur' E (0, 0)) → cur'.size = cur.size → cur'.toList = cur.toList.take (q * R.k) ++ R.flat ys ++ cur.toList.drop ((q + ys.length) * R.k) → Fr (fun k => k = g) w w' → wpList P ops Q rest (a.put o.dst (.int .i64 (ys.length : Int))) w') : wpList P ops Q (o :: rest) a w :=
  wpList_plain hgd fun _ hK => wp_copyR d s ho el hg q ed es hs hm hdp hfit fun w' cur' h2 h3 h4 h5 => hK _ _ (h w' cur' h2 h3 h4 h5)
theorem step_copyR {ops : Array Oper} {o : Oper} {a : Act} {w : World} {K : Act → World → Prop} {Q : Exit → Act → World → Prop} {G : Prop} (hgd : o.guard = none) (d s : Operand) (ho : o.op = .call { callee := .builtin .copy, args := #[d, s], argTypes := #[t, t] })
    (el : Elem P t E R.k bytes) {g : Nat} {cur : Array Value} (hg : w.heap[g]? = some (.cells cur E (0, 0))) {ys : List α} (q : Nat) {dLen dCap sLen sCap : Nat} {dp sp : Option Addr} (ed : a.eval d = .slice dp dLen dCap) (es : a.eval s = .slice sp sLen sCap) (hs : RowRd R w sp ys) (hm : ys.length = min sLen dLen) (hdp : 0 < ys.length → dp = some ⟨g, q * R.k, none⟩) (hfit : (q + ys.length) * R.k ≤ cur.size)
    (h : ∀ w' cur', w'.heap[g]? = some (.cells cur' E (0, 0)) → cur'.size = cur.size → cur'.toList = cur.toList.take (q * R.k) ++ R.flat ys ++ cur.toList.drop ((q + ys.length) * R.k) → Fr (fun k => k = g) w w' → K (a.put o.dst (.int .i64 (ys.length : Int))) w') :
    if Region.wanted o (yielded ops a.tmps) = true then Oper.wp P o a w K Q else G := by
  have hw : Region.wanted o (yielded ops a.tmps) = true := by simp [Region.wanted, hgd]
  rw [if_pos hw]
  exact wp_copyR d s ho el hg q ed es hs hm hdp hfit h
end
end Go.Proofs.YthckgkghmlkcnaaDoor
