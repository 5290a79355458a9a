/-
  THE WALK of the document's Restore.
-/
import Derived.Test.YtkcepppldhaiaaaLmRest
namespace Go.Proofs.Ytkcepppldhaiaaa
open Go.RowKit

set_option maxRecDepth 100000 in
set_option maxHeartbeats 1600000 in
theorem rrestore_any (ao : Option Addr) (cap : Nat) (us : List Use) (w : World) (ha : RowRd UseR w ao us) :
    Calls Try.prog 16 #[.slice ao us.length cap] w (RestPost RBookAt us w) := by
  have hl := ha.len
  unfold maxLen at hl
  by_cases h16 : 16 < us.length
  · have h16' : (16 : Int) < (us.length : Int) := by omega
    have Hn : Hid (¬ GoodU us) := Lib.hid (fun hg => by have := hg.len; omega)
    clear h16
    go_enter Try.func16, Try.ntmps16
    go_wp2_with fail
    go_ret2
    exact rest_no rfl Hn.out ((Fr.refl _ _).alloc _)
  · have h16' : (us.length : Int) ≤ 16 := by omega
    have h16'' : us.length ≤ 16 := by omega
    obtain ⟨i0, hi0, hz0, hz1, hz2⟩ := info_parts info_use
    clear h16
    go_enter Try.func16, Try.ntmps16
    go_wp2_with fail
    have Hs := Lib.hid (Mine.new (Below.refl _ w) ((Fr.refl noBlock w).alloc _) (show RBookAt w.heap.size [] (w.alloc (.cells #[.slice none 0 0] 49)) _ from ⟨Hold.made w, GoodU.nil⟩) (fun k hk => by subst hk; exact Nat.le_refl _))
    go_loopw [5] (fun s5 wr => ∃ (k : Nat) (F : Nat → Prop), k ≤ us.length ∧ s5 = .int .i64 k ∧ Mine w (RBookAt w.heap.size (us.take k)) wr F) (fun s5 _ => us.length - (intOf s5).toNat)
    case atStart => exact ⟨0, _, Nat.zero_le _, rfl, Hs.out⟩
    case round =>
      clear Hs
      obtain ⟨k, F, hk, rfl, hm⟩ := hrel
      by_cases hlt : k < us.length
      · obtain ⟨b, off, rfl, hb, c0, c1, c2, c3⟩ := use_cells (ha.below hm.below) hlt
        have h1 : (k : Int) < (us.length : Int) := by omega
        have hk0 : (0 : Int) ≤ (k : Int) := by omega
        have Hng := Lib.hid (fun h => not_good hlt h)
        have Htk := Lib.hid (List.take_succ_eq_append_getElem hlt)
        have hlk : (us.take k).length = k := by rw [List.length_take, Nat.min_eq_left (by omega)]
        have Hlk := Lib.hid hlk
        clear hlk
        generalize us[k] = u at *
        obtain ⟨uc, uw, ut, us'⟩ := u
        simp only at c0 c1 c2 c3
        have hm1 : Mine w (RBookAt w.heap.size (us.take k)) (wr.alloc (.cells #[.string uc, .int .i64 uw, .int .i64 ut, .int .i64 us'] 40)) F := hm.fr RBookAt.ok ((Fr.refl noBlock wr).alloc _)
        have hb1 : (wr.alloc (.cells #[.string uc, .int .i64 uw, .int .i64 ut, .int .i64 us'] 40)).heap[wr.heap.size]? = _ := heap_new wr _
        have HM := Lib.hid (And.intro hm1 hb1)
        have hgk := hm.it.2
        have Hgk := Lib.hid hgk
        have Hat := Lib.hid (rat_any hm1.it.1 (by have := hgk.len; omega) uc _ rfl)
        clear hm1 hb1 hm hgk
        cases hfu : findU (us.take k) uc with
        | some j =>
          have Hn := Lib.hid (Hng.out (fun h => by have := h.2; simp only at this; rw [hfu] at this; cases this))
          rw [hfu] at Hat
          simp only [idxI] at Hat
          have hj : (0 : Int) ≤ (j : Int) := by omega
          clear Hng hfu
          go_wp2_with fail
          refine Hat.out.mono ?_
          rintro e w' ⟨rfl, rfl⟩
          go_wp2_with fail
          go_ret2
          exact rest_no rfl Hn.out (Fr.of_below HM.out.1.below)
        | none =>
          rw [hfu] at Hat
          simp only [idxI] at Hat
          have Hfu := Lib.hid hfu
          clear hfu
          have hcs : (¬ UseOk ⟨uc, uw, ut, us'⟩ ∧ (uc.toList.isEmpty = true ∨ (uc.toList.isEmpty = false ∧ 32 < uc.size) ∨ (uc.toList.isEmpty = false ∧ uc.size ≤ 32 ∧ uw < 0) ∨ (uc.toList.isEmpty = false ∧ uc.size ≤ 32 ∧ 0 ≤ uw ∧ ut < 0) ∨ (uc.toList.isEmpty = false ∧ uc.size ≤ 32 ∧ 0 ≤ uw ∧ 0 ≤ ut ∧ us' < 0) ∨
              (uc.toList.isEmpty = false ∧ uc.size ≤ 32 ∧ 0 ≤ uw ∧ 0 ≤ ut ∧ 0 ≤ us' ∧ 1125899906842624 < ut) ∨ (uc.toList.isEmpty = false ∧ uc.size ≤ 32 ∧ 0 ≤ uw ∧ 0 ≤ ut ∧ 0 ≤ us' ∧ ut ≤ 1125899906842624 ∧ 1125899906842624 < us'))) ∨
              (UseOk ⟨uc, uw, ut, us'⟩ ∧ uc.toList.isEmpty = false ∧ uc.size ≤ 32 ∧ 0 ≤ uw ∧ 0 ≤ ut ∧ 0 ≤ us' ∧ ut ≤ 1125899906842624 ∧ us' ≤ 1125899906842624) := by
            rw [useOk_iff]
            simp only [cardB, withinB, List.all_cons, List.all_nil, Bool.and_true, Bool.and_eq_true, decide_eq_true_eq, Bool.not_eq_true']
            cases uc.toList.isEmpty <;> simp <;> omega
          rcases hcs with ⟨hno, hcs⟩ | ⟨hok, q0, q1, q2, q3, q4, q5, q6⟩
          · have Hn := Lib.hid (Hng.out (fun h => hno h.1))
            clear hno Hng
            rcases hcs with q0 | ⟨q0, q1⟩ | ⟨q0, q1, q2⟩ | ⟨q0, q1, q2, q3⟩ | ⟨q0, q1, q2, q3, q4⟩ | ⟨q0, q1, q2, q3, q4, q5⟩ | ⟨q0, q1, q2, q3, q4, q5, q6⟩
            all_goals
              go_wp2_with fail
              refine Hat.out.mono ?_
              rintro e w' ⟨rfl, rfl⟩
              go_wp2_with fail
              go_ret2
              exact rest_no rfl Hn.out (Fr.of_below HM.out.1.below)
          · have Hok := Lib.hid hok
            clear Hng hok
            go_wp2_with fail
            refine Hat.out.mono ?_
            rintro e w' ⟨rfl, rfl⟩
            go_upto_region 10 with fail
            refine wp_at (fun W => Mine w (RBookAt w.heap.size (us.take k)) W F ∧ W.heap[wr.heap.size]? = some (.cells #[.string uc, .int .i64 uw, .int .i64 ut, .int .i64 us'] 40 (0, 0))) HM.out ?_
            rintro w3 ⟨hm3, hu4⟩
            have Hm3 := Lib.hid hm3
            obtain ⟨vo4, cap4, c4, f4, hl4, hd1, hd2, hrow4, _, hob4, _⟩ := hm3.it.1.opened
            rw [Hlk.out] at c4 hrow4 hob4 hd1
            have z0 := cell_of hu4 0
            have z1 := cell_of hu4 1
            have z2 := cell_of hu4 2
            have z3 := cell_of hu4 3
            simp at z0 z1 z2 z3
            have hub4 := heap_lt hu4
            have Hrow := Lib.hid hrow4
            have C4 := Lib.hid c4
            clear hm3 hu4 hrow4 c0 c1 c2 c3
            go_region_law
              ((refine step_append_lies _ (by rfl) _ _ _ (by rfl) 0 40 i0 _ 4 40 Try.underlying31 hi0 hz0 hz1 hz2 rfl (by omega) (.slice vo4 k cap4) k (UseR.flat (us.take k)) (by rfl) ((((by have := Hrow.out; unfold RowAt at this; rw [Hlk.out] at this; exact this) : w3.ownsRow 0 40 4 (.slice vo4 k cap4) k (UseR.flat (us.take k))).alloc _).drew)
                  ⟨w3.heap.size, 0, none⟩ 1 1 [.string uc, .int .i64 uw, .int .i64 ut, .int .i64 us'] (by rfl) (by rfl) (World.news_of_block (cs := #[.string uc, .int .i64 uw, .int .i64 ut, .int .i64 us']) (t := 40) (fr := (0, 0)) (heap_alloc_new w3 _)) (by simp [Value.oneCell'])
                  (by omega) (by unfold maxLen; omega) (by omega) (by simp) (w3.heap.size + 1) (by simp) ?_; intro gg cap5 w5 hown5 hgrow5 hat5 hlt5
                have hob : w5.cell? ⟨w.heap.size, 0, none⟩ = some (.slice vo4 k cap4) := (hgrow5.cell_far _ (by simp; omega) (Ne.symm hob4)).trans ((World.cell?_alloc_lt _ _ _ hl4).trans c4)
                have hof : w5.frozen? ⟨w.heap.size, 0, none⟩ = false := (hgrow5.frozen_far _ (by simp; omega) (Ne.symm hob4)).trans ((World.frozen?_alloc_past _ _ _ hl4).trans f4)))
            all_goals go_wp2
            all_goals
              obtain ⟨F5, r1, r2⟩ := Hm3.out.it.1.app (ys := us.take k ++ [⟨uc, uw, ut, us'⟩]) (by rw [Hlk.out]; exact C4.out) ((((Fr.refl noBlock w3).alloc _).drew)) (by rw [List.length_append, Hlk.out]; rfl) (by rw [Hlk.out]; exact hgrow5) (by rw [UseR.flat_append, UseR.flat_one]; rfl) hown5 (by rw [Hlk.out]; simpa using hat5)
              rw [← Htk.out] at r1
              have hg5 : GoodU (us.take (k + 1)) := by rw [Htk.out]; exact good_snoc Hgk.out Hok.out Hfu.out (by rw [Hlk.out]; omega)
              have H5 := Lib.hid (Hm3.out.step (A' := RBookAt w.heap.size (us.take (k + 1))) ⟨r1, hg5⟩ r2)
              clear hown5 hgrow5 hat5 r1 r2 hg5
              go_roundw
              case rel => exact ⟨k + 1, F5, by omega, by go_num, H5.out⟩
              case measure => simp [intOf]; omega
      · have h1 : (us.length : Int) ≤ (k : Int) := by omega
        have htk : us.take k = us := List.take_of_length_le (by omega)
        rw [htk] at hm
        have Hm := Lib.hid hm
        clear hm htk
        go_wp2_with fail
        go_ret2
        exact ⟨_, _, rfl, Fr.of_below Hm.out.below, .inl ⟨rfl, Hm.out.it.2, _, F, rfl, Hm.out.it, Hm.out.base⟩⟩
end Go.Proofs.Ytkcepppldhaiaaa
