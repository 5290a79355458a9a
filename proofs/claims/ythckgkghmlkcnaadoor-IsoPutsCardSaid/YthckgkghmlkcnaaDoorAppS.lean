/-
  A TEXT's bytes appended to bytes of our own.
-/
import Derived.Test.YthckgkghmlkcnaaDoorOwnB
import Derived.Lib.AppendStr
import Derived.OwnWalk
namespace Go.Proofs.YthckgkghmlkcnaaDoor
open Go.RowKit Go.Lib

theorem strCells_flat (s : ByteArray) : strCells s = ByteR.flat s.data.toList := by
  rw [flat_bytes]
  rfl
theorem wpList_appS {ops : Array Oper} {rest : List Oper} {o : Oper} {a : Act} {w : World} {Q : Exit → Act → World → Prop} (hgd : o.guard = none) (sl x : Operand) (ho : o.op = .call { callee := .builtin .append, args := #[sl, x], argTypes := #[22, 9] })
    {v : Value} (xs : List UInt8) (base n : Nat) (hs : a.eval sl = v) (hv : w.ownsRow base 5 ByteR.k v n (ByteR.flat xs)) (s : ByteArray) (hx : a.eval x = .string s) (hsz : n + s.size ≤ 140737488355328) (hbase : base ≤ w.heap.size)
    (h : ∀ ao cap w', w'.ownsRow base 5 ByteR.k (.slice ao (n + s.size) cap) (n + s.size) (ByteR.flat (xs ++ s.data.toList)) → w.grownBy w' v.ownBlock → wpList Tryd.prog ops Q rest (a.put o.dst (.slice ao (n + s.size) cap)) w') :
    wpList Tryd.prog ops Q (o :: rest) a w := by
  obtain ⟨i, hi, hz, h1, h2⟩ := info_parts infoB
  obtain ⟨v', w', hrun, r1, r2, -⟩ := run_append_own_string (P := Tryd.prog) w base 22 9 o.type 5 i Tryd.underlying22 Tryd.underlying9 hi hz h1 h2 v n (ByteR.flat xs) hv s (by unfold maxLen; omega) hsz hbase
  rw [strCells_flat, ← ByteR.flat_append] at r1
  obtain ⟨ao, cap, rfl⟩ := shape_own r1
  refine wpList_plain hgd fun K hK => ?_
  unfold Oper.wp execOp
  simp only [ho, resolve, invoke, builtin, Sem.run_bind, Sem.run_pure, Result.andThen_ok, List.map_toArray, List.map_cons, List.map_nil, hs, hx, hrun]
  exact hK _ _ (h ao cap w' r1 r2)
end Go.Proofs.YthckgkghmlkcnaaDoor
