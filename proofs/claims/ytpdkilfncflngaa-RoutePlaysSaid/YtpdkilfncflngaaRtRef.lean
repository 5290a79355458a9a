/-
  The document's table: New, Find.
-/
import Derived.Test.YtpdkilfncflngaaRtSame
namespace Go.Proofs.Ytpdkilfncflngaa
open Go.RowKit

theorem rnew_any (w : World) : Calls Try.prog 12 #[] w fun e w' => ∃ l F, e = .returned (.pointer (some ⟨l, 0, none⟩)) ∧ RTableAt l [] w' F ∧ Fr noBlock w w' ∧ ∀ k, F k → w.heap.size ≤ k := by
  go_enter Try.func12, Try.ntmps12
  go_wp2
  go_ret
  refine ⟨w.heap.size, fun k => k = w.heap.size, rfl, ⟨Hold.made w, GoodR.nil⟩, (Fr.refl _ _).alloc _, fun k hk => by omega⟩
end Go.Proofs.Ytpdkilfncflngaa
