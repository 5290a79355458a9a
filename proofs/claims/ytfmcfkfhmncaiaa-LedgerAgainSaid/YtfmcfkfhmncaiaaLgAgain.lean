/-
  THE WALK of the law LedgerAgain.
-/
import Derived.Test.YtfmcfkfhmncaiaaLgDo
import Derived.Test.YtfmcfkfhmncaiaaLgRd
namespace Go.Proofs.Ytfmcfkfhmncaiaa
open Go.RowKit

/-- two ledgers of our own, apart, of the same posts -/
structure Twins (w0 w : World) (l m : Nat) (ps : List Post) : Prop where
  two : ∃ F G, Mine w0 w l ps F ∧ Mine w0 w m ps G ∧ ∀ k, F k → ¬ G k

theorem Mine.other {w0 w w' : World} {m : Nat} {qs : List Post} {F F' G : Nat → Prop} (h : Mine w0 w m qs G) (hs : Step F F' w w') (hF : ∀ k, F k → w0.heap.size ≤ k) (hd : ∀ k, F k → ¬ G k) : Mine w0 w' m qs G ∧ ∀ k, F' k → ¬ G k :=
  ⟨⟨h.led.fr hs.fr (fun k hk hf => hd k hf hk), h.base, h.below.trans (hs.below hF h.below.size).1⟩, hs.apart hd h.led.lt⟩

theorem Restored.twins {w0 w w' : World} {l : Nat} {ps : List Post} {F : Nat → Prop} {e : Ending} (h : Restored w w' ps e) (hm : Mine w0 w l ps F) :
    ∃ m G, e = .returned (.tuple #[.pointer (some ⟨m, 0, none⟩), .int .i64 0]) ∧ Mine w0 w' l ps F ∧ Mine w0 w' m ps G ∧ ∀ k, F k → ¬ G k := by
  obtain ⟨hf, ⟨_, m, G, he, hG, hn⟩ | ⟨hng, _⟩⟩ := h
  · have h1 := hm.fr hf
    exact ⟨m, G, he, h1, ⟨hG, fun k hk => Nat.le_trans hm.below.size (hn k hk), h1.below⟩, fun k hk hg => by have := hm.led.lt k hk; have := hn k hg; omega⟩
  · exact absurd hm.good hng

set_option maxRecDepth 100000 in
set_option maxHeartbeats 1000000 in
theorem again_walk (ao bo : Option Addr) (ca cb : Nat) (xs ys : List Act) (w : World) (ha : ActsAt w ao xs) (hb : ActsAt w bo ys) :
    Calls Try.prog 7 #[.slice ao xs.length ca, .slice bo ys.length cb] w fun e w' => e = .returned (.bool true) ∧ Below w.heap.size w w' := by
  have hlen := ha.len
  have hlen2 := hb.len
  unfold maxLen at hlen hlen2
  go_enter Try.func7, Try.ntmps7
  go_wp2_with fail
  refine (small_any _).mono ?_
  rintro e w1 ⟨rfl, b1⟩
  go_wp2_with fail
  refine (Mine.new (w0 := w) b1).mono ?_
  rintro e w2 ⟨l, F2, rfl, h2, _, _⟩
  clear b1
  go_wp2_with fail
  go_loopw [7] (fun s7 wr => ∃ (k : Nat) (ps : List Post), k ≤ xs.length ∧ s7 = .int .i64 k ∧ (∃ F, Mine w wr l ps F)) (fun s7 _ => xs.length - (intOf s7).toNat)
  case atStart => exact ⟨0, [], Nat.zero_le _, rfl, ⟨F2, h2⟩⟩
  case round =>
    obtain ⟨k, ps, hk1, rfl, F, hm⟩ := hrel
    by_cases hlt : k < xs.length ∧ k < 100
    · obtain ⟨h1, h60⟩ := hlt
      obtain ⟨b, off, rfl, hb, ⟨c0, c1, c2, c3⟩, hks⟩ := (ha.below hm.below).at' k h1
      have hdo := hm.act xs[k] hks
      generalize xs[k] = a at *
      have h1' : (k : Int) < (xs.length : Int) := by omega
      have h60' : (k : Int) < 100 := by omega
      unfold Act.val at hdo
      have Hd := Lib.hid hdo
      clear hdo
      go_wp2_with (go_at_call 15; refine Hd.out.mono ?_; rintro e w' ⟨F', rfl, g1, _⟩)
      go_roundw
      case rel => exact ⟨k + 1, doL ps a, by omega, by go_num, F', g1⟩
      case measure => simp [intOf]; omega
    · have hex : (k : Int) ≥ (xs.length : Int) ∨ ((k : Int) < (xs.length : Int) ∧ (k : Int) ≥ 100) := by omega
      clear hlt
      rcases hex with hex | ⟨hex, hex2⟩
      all_goals
        go_wp2_with fail
        refine hm.list.mono ?_
        rintro e w3 ⟨v, rfl, g1, g2, _, _⟩
        obtain ⟨vo, vc, rfl⟩ := g2.shape
        go_wp2_with fail
        refine (restore_any vo vc ps w3 (g2.rd g1.good)).mono ?_
        rintro e w4 hR
        obtain ⟨m, G, rfl, hml, hmm, hdis⟩ := hR.twins g1
        clear hR g1 g2 hm
        go_wp2_with fail
        go_loopw [10] (fun s10 wr => ∃ (j : Nat) (ps : List Post), j ≤ ys.length ∧ s10 = .int .i64 j ∧ Twins w wr l m ps) (fun s10 _ => ys.length - (intOf s10).toNat)
        case atStart => exact ⟨0, ps, Nat.zero_le _, rfl, ⟨F, G, hml, hmm, hdis⟩⟩
        case round =>
          obtain ⟨j, qs, hj1, rfl, ⟨F3, G3, hml, hmm, hdis⟩⟩ := hrel
          by_cases hlt : j < ys.length ∧ j < 100
          · obtain ⟨h1, h100⟩ := hlt
            obtain ⟨b, off, rfl, hb', ⟨c0, c1, c2, c3⟩, hks⟩ := (hb.below hml.below).at' j h1
            have hbF : ¬ F3 b := fun hf => by have := hml.base b hf; have := hb.blk h1; omega
            have hdo := hml.act ys[j] hks
            have hdo2 := fun (w' : World) (h : Mine w w' m qs G3) => h.act ys[j] hks
            generalize ys[j] = a at *
            have h1' : (j : Int) < (ys.length : Int) := by omega
            have h100' : (j : Int) < 100 := by omega
            unfold Act.val at hdo hdo2
            have Hd := Lib.hid hdo
            have Hd2 := Lib.hid hdo2
            clear hdo hdo2
            go_wp2_with fail
            refine Hd.out.mono ?_
            rintro e w5 ⟨F5, rfl, g5, s5⟩
            obtain ⟨hmm5, hdis5⟩ := hmm.other s5 hml.base hdis
            obtain ⟨hk', hb5, _⟩ := s5.keep hb' hbF
            have d0 := (hk' _).trans c0
            have d1 := (hk' _).trans c1
            have d2 := (hk' _).trans c2
            have d3 := (hk' _).trans c3
            clear hk' s5 c0 c1 c2 c3 hmm hml hdis Hd
            have Hc := Lib.hid (Hd2.out w5 hmm5)
            clear Hd2
            go_wp2_with fail
            refine Hc.out.mono ?_
            rintro e w6 ⟨G6, rfl, g6, s6⟩
            obtain ⟨hml6, hdis6⟩ := g5.other s6 hmm5.base (fun k hk hf => hdis5 k hf hk)
            clear s6 hmm5 hdis5 Hc d0 d1 d2 d3 g5
            go_wp2_with fail
            refine (hml6.total rfl).mono ?_
            rintro e w7 ⟨rfl, rfl⟩
            go_wp2_with fail
            refine (g6.total rfl).mono ?_
            rintro e w7 ⟨rfl, rfl⟩
            go_wp2_with fail
            refine hml6.list.mono ?_
            rintro e w7 ⟨v1, rfl, g7, r7, n7, f7⟩
            obtain ⟨v1o, v1c, rfl⟩ := r7.shape
            have hmm7 := g6.fr f7
            go_wp2_with fail
            refine hmm7.list.mono ?_
            rintro e w8 ⟨v2, rfl, g8, r8, n8, f8⟩
            obtain ⟨v2o, v2c, rfl⟩ := r8.shape
            have hml8 := g7.fr f8
            go_wp2_with fail
            refine (same_rd v1o v2o v1c v2c _ _ w8 ((r7.fr f8 (fun _ _ x => x)).rd g7.good) (r8.rd g7.good) true (by simp)).mono ?_
            rintro e w9 ⟨rfl, f9⟩
            have hml9 := hml8.fr f9
            have hmm9 := g8.fr f9
            go_wp2_with fail
            go_roundw
            case rel => exact ⟨j + 1, _, by omega, by go_num, ⟨F5, G6, hml9, hmm9, fun k hk hf => hdis6 k hf hk⟩⟩
            case measure => simp [intOf]; omega
          · have hex' : (j : Int) ≥ (ys.length : Int) ∨ ((j : Int) < (ys.length : Int) ∧ (j : Int) ≥ 100) := by omega
            clear hlt
            rcases hex' with hex' | ⟨hex', hex2'⟩
            all_goals
              go_wp2_with fail
              refine (hml.total rfl).mono ?_
              rintro e w7 ⟨rfl, rfl⟩
              go_wp2_with fail
              refine (hmm.total rfl).mono ?_
              rintro e w7 ⟨rfl, rfl⟩
              go_wp2_with fail
              go_ret
              exact ⟨rfl, hml.below⟩
end Go.Proofs.Ytfmcfkfhmncaiaa
