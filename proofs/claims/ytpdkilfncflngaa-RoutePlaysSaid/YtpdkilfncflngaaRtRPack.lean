/-
  moneyerref01.Pack where the text is refused (the other case, its loop, is left).
-/
import Derived.Test.YtpdkilfncflngaaRtTexts
namespace Go.Proofs.Ytpdkilfncflngaa
open Go.RowKit

theorem rpack_no (s : ByteArray) (w : World) (hs : s.size ≤ maxLen) (h : ¬ lookE s = 0) : Calls Try.prog 23 #[.string s] w (PackPost (lookE s) w) := by
  have Ht := Lib.hid (fun W => rtexts_any s W hs)
  generalize lookE s = x at *
  go_enter Try.func23, Try.ntmps23
  go_wp2_with fail
  refine (Ht.out _).mono ?_
  rintro e w1 ⟨rfl, rfl⟩
  go_wp2_with fail
  go_ret2
  exact ⟨_, rfl, Fr.refl _ _⟩
end Go.Proofs.Ytpdkilfncflngaa
