/-
  THE WALK of the law LedgerFull.
-/
import Derived.Test.YtfmcfkfhmncaiaaLgDo
import Derived.Test.YtfmcfkfhmncaiaaLgPosts
namespace Go.Proofs.Ytfmcfkfhmncaiaa
open Go.RowKit

def ownKey : ByteArray := ⟨#[97, 32, 107, 101, 121, 32, 111, 102, 32, 105, 116, 115, 32, 111, 119, 110]⟩

/-- what Approve answers there -/
theorem full_cases {ps : List Post} {amount : Int} (h0 : 0 ≤ amount) (h1 : amount ≤ 999999999999) (hl : ps.length < 24) :
    addE ps ⟨ownKey, amount, 1, ⟨#[]⟩⟩ = 16 ∨ (addE ps ⟨ownKey, amount, 1, ⟨#[]⟩⟩ = 0 ∧ sumA ps + amount ≤ 5000000000000) ∨ (addE ps ⟨ownKey, amount, 1, ⟨#[]⟩⟩ = 19 ∧ 5000000000000 < sumA ps + amount) := by
  have hm : Post.may ⟨ownKey, amount, 1, ⟨#[]⟩⟩ = true := by
    have e1 : ownKey.toList.isEmpty = false := by decide +kernel
    have e2 : ownKey.size = 16 := by decide +kernel
    have e3 : (⟨#[]⟩ : ByteArray).size = 0 := rfl
    simp [Post.may, e1, e2, e3, h0, h1]
  unfold addE
  rw [if_neg (by rw [hm]; simp)]
  by_cases h2 : (posOf ps (Post.key ⟨ownKey, amount, 1, ⟨#[]⟩⟩)).isSome = true
  · rw [if_pos h2]; exact .inl rfl
  rw [if_neg h2, if_neg (by omega)]
  have hc : Post.counts ⟨ownKey, amount, 1, ⟨#[]⟩⟩ = amount := by simp [Post.counts]
  rw [hc]
  by_cases h3 : 5000000000000 - sumA ps < amount
  · rw [if_pos h3]; exact .inr (.inr ⟨rfl, by omega⟩)
  · rw [if_neg h3]; exact .inr (.inl ⟨rfl, by omega⟩)

set_option maxHeartbeats 1000000 in
theorem full_walk (ao : Option Addr) (cap : Nat) (xs : List Act) (amount : Int) (w : World) (ha : ActsAt w ao xs) :
    Calls Try.prog 5 #[.slice ao xs.length cap, .int .i64 amount] w fun e w' => e = .returned (.bool true) ∧ Below w.heap.size w w' := by
  have hlen := ha.len
  unfold maxLen at hlen
  go_enter Try.func5, Try.ntmps5
  go_wp2_with fail
  refine (small_any _).mono ?_
  rintro e w1 ⟨rfl, b1⟩
  go_wp2_with fail
  refine (Mine.new (w0 := w) b1).mono ?_
  rintro e w2 ⟨l, F2, rfl, h2, _, _⟩
  clear b1
  go_wp2_with fail
  go_loopw [7] (fun s7 wr => ∃ (k : Nat) (ps : List Post), k ≤ xs.length ∧ s7 = .int .i64 k ∧ (∃ F, Mine w wr l ps F)) (fun s7 _ => xs.length - (intOf s7).toNat)
  case atStart => exact ⟨0, [], Nat.zero_le _, rfl, ⟨F2, h2⟩⟩
  case round =>
    obtain ⟨k, ps, hk1, rfl, F, hm⟩ := hrel
    by_cases hlt : k < xs.length ∧ k < 60
    · obtain ⟨h1, h60⟩ := hlt
      obtain ⟨b, off, rfl, hb, ⟨c0, c1, c2, c3⟩, hks⟩ := (ha.below hm.below).at' k h1
      have hdo := hm.act xs[k] hks
      generalize xs[k] = a at *
      have h1' : (k : Int) < (xs.length : Int) := by omega
      have h60' : (k : Int) < 60 := by omega
      unfold Act.val at hdo
      have Hd := Lib.hid hdo
      clear hdo
      go_wp2_with (go_at_call 15; refine Hd.out.mono ?_; rintro e w' ⟨F', rfl, g1, _⟩)
      go_roundw
      case rel => exact ⟨k + 1, doL ps a, by omega, by go_num, F', g1⟩
      case measure => simp [intOf]; omega
    · have hex : (k : Int) ≥ (xs.length : Int) ∨ ((k : Int) < (xs.length : Int) ∧ (k : Int) ≥ 60) := by omega
      clear hlt
      have hgood := hm.good
      have hs0 := sumA_nonneg hgood.may
      have hs1 := hgood.total
      have hlist := Lib.hid (hm.list)
      have hgl := hgood.len
      by_cases ha0 : amount < 0 ∨ 999999999999 < amount
      · rcases hex with hex | ⟨hex, hex2⟩ <;> rcases ha0 with ha0 | ha0
        all_goals
          go_wp2_with fail
          go_ret
          exact ⟨rfl, hm.below⟩
      · have ha1 : 0 ≤ amount := by omega
        have ha2 : amount ≤ 999999999999 := by omega
        clear ha0
        by_cases h24 : (24 : Int) ≤ (ps.length : Int)
        · rcases hex with hex | ⟨hex, hex2⟩
          all_goals
            go_wp2_with fail
            refine hlist.out.mono ?_
            rintro e w' ⟨v, rfl, g1, g2, _, _⟩
            obtain ⟨vo, vc, rfl⟩ := g2.shape
            go_wp2_with fail
            go_ret
            exact ⟨rfl, g1.below⟩
        · have h24' : (ps.length : Int) < 24 := by omega
          have hcs := full_cases (ps := ps) ha1 ha2 (by omega)
          clear h24
          rcases hcs with hE | ⟨hE, htot⟩ | ⟨hE, htot⟩ <;> rcases hex with hex | ⟨hex, hex2⟩
          all_goals
            have HE := Lib.hid hE
            clear hE
            go_wp2_with fail
            refine hlist.out.mono ?_
            rintro e w' ⟨v, rfl, g1, g2, _, _⟩
            obtain ⟨vo, vc, rfl⟩ := g2.shape
            go_wp2_with fail
            refine (g1.total rfl).mono ?_
            rintro e w'' ⟨rfl, rfl⟩
            go_wp2_with fail
            refine (g1.approve ownKey amount _ (by unfold maxLen; decide +kernel) HE.out rfl).mono ?_
            rintro e w3 ⟨F', rfl, g3, _⟩
            go_wp2_with fail
          · go_ret
            exact ⟨rfl, g3.below⟩
          · go_ret
            exact ⟨rfl, g3.below⟩
          · refine (g3.total (n := sumA ps + amount) (by rw [addL, if_pos HE.out, sumA_append]; simp [sumA, Post.counts])).mono ?_
            rintro e w'' ⟨rfl, rfl⟩
            go_wp2_with fail
            go_ret
            exact ⟨rfl, g3.below⟩
          · refine (g3.total (n := sumA ps + amount) (by rw [addL, if_pos HE.out, sumA_append]; simp [sumA, Post.counts])).mono ?_
            rintro e w'' ⟨rfl, rfl⟩
            go_wp2_with fail
            go_ret
            exact ⟨rfl, g3.below⟩
          · refine (g3.total (n := sumA ps) (by rw [addL, if_neg (by rw [HE.out]; decide)])).mono ?_
            rintro e w'' ⟨rfl, rfl⟩
            go_wp2_with fail
            go_ret
            exact ⟨congrArg (fun b => Ending.returned (.bool b)) (by simp; omega : (!decide (sumA ps + amount ≤ 5000000000000)) = true), g3.below⟩
          · refine (g3.total (n := sumA ps) (by rw [addL, if_neg (by rw [HE.out]; decide)])).mono ?_
            rintro e w'' ⟨rfl, rfl⟩
            go_wp2_with fail
            go_ret
            exact ⟨congrArg (fun b => Ending.returned (.bool b)) (by simp; omega : (!decide (sumA ps + amount ≤ 5000000000000)) = true), g3.below⟩
end Go.Proofs.Ytfmcfkfhmncaiaa
