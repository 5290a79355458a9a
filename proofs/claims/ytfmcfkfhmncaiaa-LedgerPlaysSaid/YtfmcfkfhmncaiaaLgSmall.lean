/-
  THE WALK of the small case.
-/
import Derived.Test.YtfmcfkfhmncaiaaLgAt
namespace Go.Proofs.Ytfmcfkfhmncaiaa
open Go.RowKit

def pA : Post := ⟨⟨#[97]⟩, 60, 1, ⟨#[120]⟩⟩
def pB : Post := ⟨⟨#[98]⟩, 40, 1, ⟨#[]⟩⟩
def pA' : Post := ⟨⟨#[97]⟩, 60, 2, ⟨#[120]⟩⟩

set_option maxHeartbeats 1000000 in
theorem small_any (w : World) : Calls Try.prog 8 #[] w fun e w' => e = .returned (.bool true) ∧ Below w.heap.size w w' := by
  go_enter Try.func8, Try.ntmps8
  go_wp2_with fail
  refine (Mine.new (w0 := w) (Below.refl _ _)).mono ?_
  rintro e w1 ⟨l, F1, rfl, h1, _, _⟩
  go_wp2_with fail
  refine (h1.approve _ _ _ (by unfold maxLen; decide) (n := 0) (qs := [pA]) (by decide +kernel) (by kernel_rfl)).mono ?_
  rintro e w2 ⟨_, rfl, h2, _⟩
  clear h1
  go_wp2_with fail
  refine (h2.approve _ _ _ (by unfold maxLen; decide) (n := 0) (qs := [pA, pB]) (by decide +kernel) (by kernel_rfl)).mono ?_
  rintro e w3 ⟨_, rfl, h3, _⟩
  clear h2
  go_wp2_with fail
  refine (h3.approve _ _ _ (by unfold maxLen; decide) (n := 16) (qs := [pA, pB]) (by decide +kernel) (by kernel_rfl)).mono ?_
  rintro e w4 ⟨_, rfl, h4, _⟩
  clear h3
  go_wp2_with fail
  refine (h4.total (n := 100) (by decide +kernel)).mono ?_
  rintro e w4 ⟨rfl, rfl⟩
  go_wp2_with fail
  refine (h4.reverse _ (by unfold maxLen; decide) (a := 60) (n := 0) (qs := [pA', pB]) (by decide +kernel) (by decide +kernel) (by kernel_rfl)).mono ?_
  rintro e w5 ⟨_, rfl, h5, _⟩
  clear h4
  go_wp2_with fail
  refine (h5.reverse _ (by unfold maxLen; decide) (a := 0) (n := 20) (qs := [pA', pB]) (by decide +kernel) (by decide +kernel) (by kernel_rfl)).mono ?_
  rintro e w6 ⟨_, rfl, h6, _⟩
  clear h5
  go_wp2_with fail
  refine (h6.ask _ (by unfold maxLen; decide) (p := pA') (b := true) (by kernel_rfl) (by decide +kernel)).mono ?_
  rintro e w7 ⟨rfl, h7, _⟩
  clear h6
  simp only [Post.val, pA']
  have h8 := h7.alloc (.cells #[.string ⟨#[97]⟩, .int .i64 60, .int .i64 2, .string ⟨#[120]⟩] 34)
  go_wp2_with fail
  refine (h8.close (n := 40) (by decide +kernel)).mono ?_
  rintro e w9 ⟨_, rfl, h9, _⟩
  clear h7 h8
  go_wp2_with fail
  refine (h9.total (n := 0) (by decide +kernel)).mono ?_
  rintro e w9 ⟨rfl, rfl⟩
  go_wp2_with fail
  go_ret
  exact ⟨rfl, h9.below⟩
end Go.Proofs.Ytfmcfkfhmncaiaa
