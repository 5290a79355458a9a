/-
  moneyerref15.Same at two rows of the same routes.
-/
import Derived.Test.YtpdkilfncflngaaRtLong
namespace Go.Proofs.Ytpdkilfncflngaa
open Go.RowKit

set_option maxRecDepth 100000 in
set_option maxHeartbeats 800000 in
theorem same_eq (va vb : Value) (rs : List Route) (w : World) (ha : RowAt 42 RouteR w va rs) (hb : RowAt 42 RouteR w vb rs) :
    Calls Try.prog 21 #[va, vb] w fun e w' => e = .returned (.bool true) ∧ Fr noBlock w w' := by
  obtain ⟨a, ca, rfl, hca, hma, _, _⟩ := ha.shape
  obtain ⟨b, cb, rfl, _, _, _, _⟩ := hb.shape
  have hlen : rs.length ≤ 9223372036854775807 := by unfold maxLen at hma; omega
  have Ha := Lib.hid ha
  have Hb := Lib.hid hb
  clear ha hb hca hma
  go_enter Try.func21, Try.ntmps21
  go_wp2_with fail
  go_loopw [5] (fun s5 wr => ∃ i : Nat, i ≤ rs.length ∧ s5 = .int .i64 i ∧ Fr noBlock w wr) (fun s5 _ => rs.length - (intOf s5).toNat)
  case atStart => exact ⟨0, Nat.zero_le _, rfl, Fr.refl _ _⟩
  case round =>
    obtain ⟨i, hi, rfl, hf⟩ := hrel
    by_cases hlt : i < rs.length
    · have hlt' : (i : Int) < (rs.length : Int) := by omega
      have hi1 : i + 1 ≤ rs.length := by omega
      obtain ⟨g, rfl, hg, c0, c1⟩ := route_cells (Ha.out.fr0 hf) hlt
      obtain ⟨g', rfl, hg', d0, d1⟩ := route_cells (Hb.out.fr0 hf) hlt
      have Hfq := Lib.hid (fun k => hf.drewN k)
      generalize rs[i] = r at *
      clear hf
      go_wp2_with fail
      go_quiet (fail)
      all_goals go_wp2_with fail
      go_roundw
      case rel => exact ⟨i + 1, hi1, by go_num, Hfq.out _⟩
      case measure => simp [intOf]; omega
    · have hlt' : (rs.length : Int) ≤ (i : Int) := by omega
      go_wp2_with fail
      go_ret
      exact ⟨rfl, hf⟩
end Go.Proofs.Ytpdkilfncflngaa
