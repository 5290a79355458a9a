/-
  THE WALKS of the two Restores.
-/
import Derived.Test.YtkcepppldhaiaaaLmRef3
import Derived.Test.YtkcepppldhaiaaaLmLaw
namespace Go.Proofs.Ytkcepppldhaiaaa
open Go.RowKit

theorem GoodU.take {us : List Use} (h : GoodU us) (k : Nat) : GoodU (us.take k) :=
  ⟨fun u hu => h.each u (List.mem_of_mem_take hu), by rw [List.map_take]; exact h.cards.sublist (List.take_sublist _ _), by have := h.len; simp; omega⟩
theorem good_snoc {us : List Use} {u : Use} (h : GoodU us) (hu : UseOk u) (hn : findU us u.card = none) (hl : us.length < 16) : GoodU (us ++ [u]) := by
  rw [findU_none] at hn
  refine ⟨fun v hv => ?_, ?_, by simp; omega⟩
  · rcases List.mem_append.1 hv with hv | hv
    · exact h.each v hv
    · simp at hv; subst hv; exact hu
  · rw [List.map_append, List.nodup_append]
    refine ⟨h.cards, by simp, fun x hx y hy => ?_⟩
    simp at hy
    subst hy
    obtain ⟨q, hq, rfl⟩ := List.mem_map.1 hx
    exact hn q hq
theorem good_last {us : List Use} {u : Use} (h : GoodU (us ++ [u])) : UseOk u ∧ findU us u.card = none := by
  refine ⟨h.each u (by simp), findU_none.2 (fun v hv e => ?_)⟩
  have hc := h.cards
  rw [List.map_append, List.nodup_append] at hc
  exact hc.2.2 _ (List.mem_map.2 ⟨v, hv, rfl⟩) u.card (by simp) e
theorem not_good {us : List Use} {k : Nat} (hk : k < us.length) (h : ¬ (UseOk us[k] ∧ findU (us.take k) us[k].card = none)) : ¬ GoodU us := by
  intro hg
  have := hg.take (k + 1)
  rw [List.take_succ_eq_append_getElem hk] at this
  exact h (good_last this)
/-- what a use must be, as the program asks it -/
theorem useOk_iff {u : Use} : UseOk u ↔ cardB u.card = true ∧ 0 ≤ u.window ∧ withinB 1125899906842624 [u.times, u.sum] = true := by
  simp only [withinB, List.all_cons, List.all_nil, Bool.and_true, Bool.and_eq_true, decide_eq_true_eq]
  exact ⟨fun ⟨a, b, c, d, e, f⟩ => ⟨a, b, ⟨c, d⟩, e, f⟩, fun ⟨a, b, ⟨c, d⟩, e, f⟩ => ⟨a, b, c, d, e, f⟩⟩

def RestPost (A : Nat → List Use → Thing) (us : List Use) (w : World) (e : Ending) (w' : World) : Prop :=
  ∃ (a0 : Option Addr) (E : Int), e = .returned (.tuple #[.pointer a0, .int .i64 E]) ∧ Fr noBlock w w' ∧
    ((E = 0 ∧ GoodU us ∧ ∃ l F, a0 = some ⟨l, 0, none⟩ ∧ A l us w' F ∧ ∀ k, F k → w.heap.size ≤ k) ∨ (E = 1 ∧ ¬ GoodU us ∧ a0 = none))
theorem rest_no {A : Nat → List Use → Thing} {us : List Use} {w w' : World} {e : Ending} (he : e = .returned (.tuple #[.pointer none, .int .i64 1])) (hn : ¬ GoodU us) (hf : Fr noBlock w w') : RestPost A us w e w' := ⟨_, _, he, hf, .inr ⟨rfl, hn, rfl⟩⟩

set_option maxRecDepth 100000 in
set_option maxHeartbeats 1600000 in
theorem restore_any (ao : Option Addr) (cap : Nat) (us : List Use) (w : World) (ha : RowRd UseR w ao us) :
    Calls Try.prog 15 #[.slice ao us.length cap] w (RestPost BookAt us w) := by
  have hl := ha.len
  unfold maxLen at hl
  by_cases h16 : 16 < us.length
  · have h16' : (16 : Int) < (us.length : Int) := by omega
    have Hn : Hid (¬ GoodU us) := Lib.hid (fun hg => by have := hg.len; omega)
    clear h16
    go_enter Try.func15, Try.ntmps15
    go_wp2_with fail
    go_ret2
    exact rest_no rfl Hn.out (Fr.refl _ _)
  · have h16' : (us.length : Int) ≤ 16 := by omega
    have h16'' : us.length ≤ 16 := by omega
    obtain ⟨i0, hi0, hz0, hz1, hz2⟩ := info_parts info_use
    clear h16
    go_enter Try.func15, Try.ntmps15
    go_wp2_with fail
    have Hs := Lib.hid (Mine.new (Below.refl _ w) ((Fr.refl noBlock w).alloc _) (show BookAt w.heap.size [] (w.alloc (.cells #[.slice none 0 0] 53)) _ from ⟨Hold.made w, GoodU.nil⟩) (fun k hk => by subst hk; exact Nat.le_refl _))
    go_loopw [14] (fun s14 wr => ∃ (k : Nat) (F : Nat → Prop), k ≤ us.length ∧ s14 = .int .i64 k ∧ Mine w (BookAt w.heap.size (us.take k)) wr F) (fun s14 _ => us.length - (intOf s14).toNat)
    case atStart => exact ⟨0, _, Nat.zero_le _, rfl, Hs.out⟩
    case round =>
      clear Hs
      obtain ⟨k, F, hk, rfl, hm⟩ := hrel
      by_cases hlt : k < us.length
      · obtain ⟨b, off, rfl, hb, c0, c1, c2, c3⟩ := use_cells (ha.below hm.below) hlt
        have h1 : (k : Int) < (us.length : Int) := by omega
        have hk0 : (0 : Int) ≤ (k : Int) := by omega
        have Hng := Lib.hid (fun h => not_good hlt h)
        have Htk := Lib.hid (List.take_succ_eq_append_getElem hlt)
        have hlk : (us.take k).length = k := by rw [List.length_take, Nat.min_eq_left (by omega)]
        have Hlk := Lib.hid hlk
        clear hlk
        generalize us[k] = u at *
        obtain ⟨uc, uw, ut, us'⟩ := u
        simp only at c0 c1 c2 c3
        have hm1 : Mine w (BookAt w.heap.size (us.take k)) (wr.alloc (.cells #[.string uc, .int .i64 uw, .int .i64 ut, .int .i64 us'] 40)) F := hm.fr BookAt.ok ((Fr.refl noBlock wr).alloc _)
        have hb1 : (wr.alloc (.cells #[.string uc, .int .i64 uw, .int .i64 ut, .int .i64 us'] 40)).heap[wr.heap.size]? = _ := heap_new wr _
        have hnF := BookAt.ok.new hm.it
        have HM := Lib.hid (And.intro hm1 (And.intro hb1 hnF))
        have hgk := hm.it.2
        have Hgk := Lib.hid hgk
        have Hfind := Lib.hid (find_any hm1.it.1 (by have := hgk.len; omega) uc _ rfl)
        clear hm1 hb1 hnF hm hgk
        cases hcb : cardB uc with
        | false =>
          have Hc := Lib.hid (fun W => card_any uc false hcb W)
          have Hn := Lib.hid (Hng.out (fun h => by have := h.1.card; simp only at this; rw [hcb] at this; cases this))
          clear hcb Hng Hfind
          go_wp2_with fail
          refine (Hc.out _).mono ?_
          rintro e w' ⟨rfl, rfl⟩
          go_wp2_with fail
          go_ret2
          exact rest_no rfl Hn.out (Fr.of_below HM.out.1.below)
        | true =>
          have Hc := Lib.hid (fun W => card_any uc true hcb W)
          cases hfu : findU (us.take k) uc with
          | some j =>
            have Hn := Lib.hid (Hng.out (fun h => by have := h.2; simp only at this; rw [hfu] at this; cases this))
            rw [hfu] at Hfind
            simp only [idxI] at Hfind
            clear hcb Hng hfu
            go_wp2_with fail
            refine (Hc.out _).mono ?_
            rintro e w' ⟨rfl, rfl⟩
            go_wp2_with fail
            refine Hfind.out.mono ?_
            rintro e w' ⟨rfl, f2⟩
            have hj : (0 : Int) ≤ (j : Int) := by omega
            have Hm2 := Lib.hid (HM.out.1.fr BookAt.ok f2)
            go_wp2_with fail
            go_ret2
            exact rest_no rfl Hn.out (Fr.of_below Hm2.out.below)
          | none =>
            rw [hfu] at Hfind
            simp only [idxI] at Hfind
            have Hfu := Lib.hid hfu
            have Hcb := Lib.hid hcb
            clear hfu hcb
            go_wp2_with fail
            refine (Hc.out _).mono ?_
            rintro e w' ⟨rfl, rfl⟩
            go_wp2_with fail
            refine Hfind.out.mono ?_
            rintro e w2 ⟨rfl, f2⟩
            have hb2 := f2.obj HM.out.2.1 (fun x => x)
            have Hm2 := Lib.hid (HM.out.1.fr BookAt.ok f2)
            have y1 := cell_of hb2 1
            have y2 := cell_of hb2 2
            have y3 := cell_of hb2 3
            simp at y1 y2 y3
            have Hb2 := Lib.hid hb2
            clear f2 hb2
            by_cases hw : uw < 0
            · have Hn := Lib.hid (Hng.out (fun h => by have := h.1.win; simp only at this; omega))
              clear Hng
              go_wp2_with fail
              go_ret2
              exact rest_no rfl Hn.out (Fr.of_below Hm2.out.below)
            · obtain ⟨wb, hwb⟩ : ∃ wb, withinB 1125899906842624 [ut, us'] = wb := ⟨_, rfl⟩
              have Hwb := Lib.hid hwb
              clear hwb
              go_wp2_with fail
              refine (within_any _ _ 2 [ut, us'] _ (ints2 _ ut us' _ rfl) wb Hwb.out).mono ?_
              rintro e w3 ⟨rfl, f3⟩
              have hf3 := ((Fr.refl noBlock w2).alloc (.cells #[.int .i64 ut, .int .i64 us'] 3)).trans' f3
              have Hm3 := Lib.hid (Hm2.out.fr BookAt.ok hf3)
              cases wb with
              | false =>
                have Hn := Lib.hid (Hng.out (fun h => by have := (useOk_iff.1 h.1).2.2; simp only at this; rw [Hwb.out] at this; cases this))
                clear Hng f3 hf3
                go_wp2_with fail
                go_ret2
                exact rest_no rfl Hn.out (Fr.of_below Hm3.out.below)
              | true =>
                have hok : UseOk ⟨uc, uw, ut, us'⟩ := useOk_iff.2 ⟨Hcb.out, by simp only; omega, Hwb.out⟩
                have Hok := Lib.hid hok
                have hu4 := hf3.obj Hb2.out (fun x => x)
                obtain ⟨vo4, cap4, c4, f4, hl4, hd1, hd2, hrow4, _, hob4, _⟩ := Hm3.out.it.1.opened
                rw [Hlk.out] at c4 hrow4 hob4 hd1
                have z0 := cell_of hu4 0
                have z1 := cell_of hu4 1
                have z2 := cell_of hu4 2
                have z3 := cell_of hu4 3
                simp at z0 z1 z2 z3
                have hub4 := heap_lt hu4
                have Hrow := Lib.hid hrow4
                have C4 := Lib.hid c4
                clear Hng f3 hf3 hu4 hrow4 hok c0 c1 c2 c3 y1 y2 y3
                go_wp2_with fail
                go_region_law
                  ((refine step_append_lies _ (by rfl) _ _ _ (by rfl) 0 40 i0 _ 4 40 Try.underlying31 hi0 hz0 hz1 hz2 rfl (by omega) (.slice vo4 k cap4) k (UseR.flat (us.take k)) (by rfl) ((((by have := Hrow.out; unfold RowAt at this; rw [Hlk.out] at this; exact this) : w3.ownsRow 0 40 4 (.slice vo4 k cap4) k (UseR.flat (us.take k))).alloc _).drew)
                      ⟨w3.heap.size, 0, none⟩ 1 1 [.string uc, .int .i64 uw, .int .i64 ut, .int .i64 us'] (by rfl) (by rfl) (World.news_of_block (cs := #[.string uc, .int .i64 uw, .int .i64 ut, .int .i64 us']) (t := 40) (fr := (0, 0)) (heap_alloc_new w3 _)) (by simp [Value.oneCell'])
                      (by omega) (by unfold maxLen; omega) (by omega) (by simp) (w3.heap.size + 1) (by simp) ?_; intro gg cap5 w5 hown5 hgrow5 hat5 hlt5
                    have hob : w5.cell? ⟨w.heap.size, 0, none⟩ = some (.slice vo4 k cap4) := (hgrow5.cell_far _ (by simp; omega) (Ne.symm hob4)).trans ((World.cell?_alloc_lt _ _ _ hl4).trans c4)
                    have hof : w5.frozen? ⟨w.heap.size, 0, none⟩ = false := (hgrow5.frozen_far _ (by simp; omega) (Ne.symm hob4)).trans ((World.frozen?_alloc_past _ _ _ hl4).trans f4)))
                all_goals go_wp2
                all_goals
                  obtain ⟨F5, r1, r2⟩ := Hm3.out.it.1.app (ys := us.take k ++ [⟨uc, uw, ut, us'⟩]) (by rw [Hlk.out]; exact C4.out) ((((Fr.refl noBlock w3).alloc _).drew)) (by rw [List.length_append, Hlk.out]; rfl) (by rw [Hlk.out]; exact hgrow5) (by rw [UseR.flat_append, UseR.flat_one]; rfl) hown5 (by rw [Hlk.out]; simpa using hat5)
                  rw [← Htk.out] at r1
                  have hg5 : GoodU (us.take (k + 1)) := by rw [Htk.out]; exact good_snoc Hgk.out Hok.out Hfu.out (by rw [Hlk.out]; omega)
                  have H5 := Lib.hid (Hm3.out.step (A' := BookAt w.heap.size (us.take (k + 1))) ⟨r1, hg5⟩ r2)
                  clear hown5 hgrow5 hat5 r1 r2 hg5
                  go_roundw
                  case rel => exact ⟨k + 1, F5, by omega, by go_num, H5.out⟩
                  case measure => simp [intOf]; omega
      · have h1 : (us.length : Int) ≤ (k : Int) := by omega
        have htk : us.take k = us := List.take_of_length_le (by omega)
        rw [htk] at hm
        have Hm := Lib.hid hm
        clear hm htk
        go_wp2_with fail
        go_ret2
        exact ⟨_, _, rfl, Fr.of_below Hm.out.below, .inl ⟨rfl, Hm.out.it.2, _, F, rfl, Hm.out.it, Hm.out.base⟩⟩
end Go.Proofs.Ytkcepppldhaiaaa
