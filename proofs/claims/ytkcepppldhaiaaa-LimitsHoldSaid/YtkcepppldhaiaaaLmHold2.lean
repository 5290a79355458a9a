/-
  THE WALK of the law LimitsHold.
-/
import Derived.Test.YtkcepppldhaiaaaLmHold
namespace Go.Proofs.Ytkcepppldhaiaaa
open Go.RowKit

set_option maxRecDepth 100000 in
set_option maxHeartbeats 2000000 in
theorem hold_walk (ao : Option Addr) (cap : Nat) (xs : List LAct) (r : Rule) (card : ByteArray) (w : World) (ha : RowRd ActR w ao xs) :
    Calls Try.prog 3 #[r.val, .string card, .slice ao xs.length cap] w fun e w' => e = .returned (.bool true) ∧ Below w.heap.size w w' := by
  have hlen := ha.len
  unfold maxLen at hlen
  obtain ⟨rb, hR⟩ : ∃ b, r.right = b := ⟨_, rfl⟩
  have hrr := fun W => right_any r rb hR W
  have HRR := Lib.hid hR
  obtain ⟨ticks, times, sum, once⟩ := r
  have hf0 := (Fr.refl noBlock w).alloc (.cells #[.int .i64 ticks, .int .i64 times, .int .i64 sum, .int .i64 once] 23)
  have ha0 := ha.fr0 hf0
  have hrc := rule_cells (heap_new w (.cells #[.int .i64 ticks, .int .i64 times, .int .i64 sum, .int .i64 once] 23))
  obtain ⟨w0, hw0⟩ : ∃ w0, w0 = w.alloc (.cells #[.int .i64 ticks, .int .i64 times, .int .i64 sum, .int .i64 once] 23) := ⟨_, rfl⟩
  have hsz : w0.heap.size = w.heap.size + 1 := by rw [hw0]; simp
  have hb0 : Below w.heap.size w w0 := by rw [hw0]; exact hf0.below (Nat.le_refl _) (fun _ h => h.elim)
  have hrb : w.heap.size < w0.heap.size := by omega
  rw [← hw0] at ha0 hrc
  have Hw0 := Lib.hid hw0
  have Hrr := Lib.hid hrr
  have Hsz := Lib.hid hsz
  clear hw0 hf0 ha hrr hR hsz
  unfold Rule.val at *
  simp only at *
  go_enter Try.func3, Try.ntmps3
  go_wp2_with fail
  rw [← Hw0.out]
  refine (small_any _).mono ?_
  rintro e w1 ⟨rfl, b1⟩
  go_wp2_with fail
  refine (MyBook.new (w0 := w0) b1).mono ?_
  rintro e w2 ⟨l, F2, rfl, h2⟩
  clear b1
  have y0 := (h2.below.cell (p := ⟨w.heap.size, 0, none⟩) hrb).trans hrc.1
  have y1 := (h2.below.cell (p := ⟨w.heap.size, 1, none⟩) hrb).trans hrc.2.1
  have y2 := (h2.below.cell (p := ⟨w.heap.size, 2, none⟩) hrb).trans hrc.2.2.1
  have y3 := (h2.below.cell (p := ⟨w.heap.size, 3, none⟩) hrb).trans hrc.2.2.2
  go_wp2_with fail
  refine (Hrr.out _).mono ?_
  rintro e w3 ⟨rfl, f3⟩
  have H3 : Hid (MyBook w0 l [] w3 F2) := Lib.hid (h2.fr BookAt.ok f3)
  clear f3 y0 y1 y2 y3 h2
  go_wp2_with fail
  go_loopw [10, 11, 12, 13, 14] (fun s10 s11 s12 s13 s14 wr => ∃ (k : Nat) (us : List Use) (F : Nat → Prop) (now win ct cs : Int), k ≤ xs.length ∧ s14 = .int .i64 k ∧ s10 = .int .i64 now ∧ s11 = .int .i64 win ∧ s12 = .int .i64 ct ∧ s13 = .int .i64 cs ∧
      MyBook w0 l us wr F ∧ HoldInv ⟨ticks, times, sum, once⟩ card us now win ct cs ∧ 0 ≤ now ∧ now ≤ 64 * k ∧ 0 ≤ ct ∧ ct ≤ 999999999999 ∧ 0 ≤ cs ∧ cs ≤ 999999999999 ∧ k ≤ 200) (fun _ _ _ _ s14 _ => xs.length - (intOf s14).toNat)
  case atStart => exact ⟨0, [], F2, 0, -1, 0, 0, Nat.zero_le _, rfl, rfl, rfl, rfl, rfl, H3.out, HoldInv.start, by omega, by omega, by omega, by omega, by omega, by omega, by omega⟩
  case round =>
    clear H3
    obtain ⟨k, us, F, now, win, ct, cs, hk, rfl, rfl, rfl, rfl, rfl, hm, hi, hn0, hn1, hc0, hc1, hs0, hs1, hk2⟩ := hrel
    by_cases hlt : k < xs.length ∧ k < 200
    · obtain ⟨h1, h200⟩ := hlt
      obtain ⟨b, off, rfl, hb, c0, c1, c2, c3, c4, c5, c6, c7⟩ := act_cells (ha0.below hm.below) h1
      have h1' : (k : Int) < (xs.length : Int) := by omega
      have h200' : (k : Int) < 200 := by omega
      have hk0 : (0 : Int) ≤ (k : Int) := by omega
      generalize xs[k] = a at *
      obtain ⟨op, ⟨r0, r1, r2, r3⟩, acard, aamt, aat⟩ := a
      simp only at c0 c1 c2 c3 c4 c5 c6 c7
      have hbx : (wr.alloc (.cells #[.int .i64 op, .int .i64 r0, .int .i64 r1, .int .i64 r2, .int .i64 r3, .string acard, .int .i64 aamt, .int .i64 aat] 30)).heap[wr.heap.size]? = _ := heap_new wr _
      have hnF := BookAt.ok.new hm.it
      have hm1 : MyBook w0 l us _ F := hm.alloc (.cells #[.int .i64 op, .int .i64 r0, .int .i64 r1, .int .i64 r2, .int .i64 r3, .string acard, .int .i64 aamt, .int .i64 aat] 30)
      have HM := Lib.hid (And.intro hm1 (And.intro hbx hnF))
      have Hi := Lib.hid hi
      obtain ⟨tb, htb⟩ : ∃ tb, (decide (0 ≤ aat ∧ aat ≤ 64)) = tb := ⟨_, rfl⟩
      have Htb := Lib.hid htb
      clear hm hbx hnF hm1 hi htb
      obtain ⟨wa, hwa⟩ : ∃ wa, wa = wr.alloc (.cells #[.int .i64 op, .int .i64 r0, .int .i64 r1, .int .i64 r2, .int .i64 r3, .string acard, .int .i64 aamt, .int .i64 aat] 30) := ⟨_, rfl⟩
      have Hwa := Lib.hid hwa
      clear hwa
      go_upto_region 14 with fail
      go_cut [49] (fun s49 wx => s49 = .bool tb ∧ wx = wa)
      case first =>
        by_cases q : 0 ≤ aat ∧ aat ≤ 64
        · obtain ⟨q1, q2⟩ := q
          have hq : tb = true := by rw [← Htb.out]; exact decide_eq_true ⟨q1, q2⟩
          have Hq := Lib.hid hq
          clear hq
          go_wp2_with fail
          go_meet
          exact ⟨by rw [Hq.out], Hwa.out.symm⟩
        · have hq : tb = false := by rw [← Htb.out]; exact decide_eq_false q
          have q' : aat < 0 ∨ (0 ≤ aat ∧ 64 < aat) := by omega
          have Hq := Lib.hid hq
          clear hq q
          rcases q' with q' | ⟨q1, q2⟩
          all_goals
            go_wp2_with fail
            go_meet
            exact ⟨by first | (rw [Hq.out]; done) | (rw [Hq.out]; simp; omega), Hwa.out.symm⟩
      case rest =>
        obtain ⟨rfl, rfl⟩ := hcut
        have hM := HM.out
        rw [← Hwa.out] at hM
        have HM := Lib.hid hM
        have x0 := cell_of hM.2.1 7
        simp at x0
        clear hM
        go_upto_if 49 with fail
        go_cut [10] (fun s10 wx => ∃ d : Int, 0 ≤ d ∧ d ≤ 64 ∧ s10 = .int .i64 (now + d) ∧ wx = wc)
        case first =>
          cases tb
          · go_wp2_with fail
            go_meet
            exact ⟨0, by omega, by omega, by go_num, rfl⟩
          · have q := Htb.out
            simp only [decide_eq_true_eq] at q
            obtain ⟨q1, q2⟩ := q
            go_wp2_with fail
            go_meet
            exact ⟨aat, q1, q2, rfl, rfl⟩
        case rest =>
          clear x0
          obtain ⟨d, hd0, hd1, rfl, rfl⟩ := hcut
          have hi' := Hi.out.later hd0
          obtain ⟨nw, hnw⟩ : ∃ nw, now + d = nw := ⟨_, rfl⟩
          rw [hnw] at hi'
          rw [hnw]
          have hnw0 : 0 ≤ nw := by omega
          have hnw1 : nw ≤ 64 * (k + 1 : Nat) := by omega
          have Hi' := Lib.hid hi'
          clear hnw hd0 hd1 hi' Hi hn0 hn1 Hwa
          go_wp2_with fail
          refine HM.out.1.list.mono ?_
          rintro e w5 ⟨vo, vc, rfl, h5, hrow5, f5, hn5⟩
          have hb5 := f5.obj HM.out.2.1 (fun x => x)
          have x5 := cell_of hb5 5
          have x6 := cell_of hb5 6
          simp at x5 x6
          have y0 := (h5.below.cell (p := ⟨w.heap.size, 0, none⟩) hrb).trans hrc.1
          have y1 := (h5.below.cell (p := ⟨w.heap.size, 1, none⟩) hrb).trans hrc.2.1
          have y2 := (h5.below.cell (p := ⟨w.heap.size, 2, none⟩) hrb).trans hrc.2.2.1
          have y3 := (h5.below.cell (p := ⟨w.heap.size, 3, none⟩) hrb).trans hrc.2.2.2
          have hgood := h5.good
          have hown : ∀ q, (Value.slice vo us.length vc).ownBlock = some q → ¬ F q := fun q hq hf => by have := BookAt.ok.lt HM.out.1.it q hf; have := hn5 q hq; omega
          have H5 := Lib.hid (And.intro h5 (And.intro hb5 (And.intro hrow5 (And.intro HM.out.2.2 (And.intro hgood hown)))))
          have Hc := Lib.hid (h5.try_ ⟨ticks, times, sum, once⟩ acard aamt nw rfl rfl)
          unfold Rule.val at Hc
          simp only at Hc
          clear h5 hb5 hrow5 f5 hn5 HM hgood hown
          go_wp2_with fail
          refine Hc.out.mono ?_
          rintro e w6 ⟨F6, rfl, h6, s6⟩
          have hgood := H5.out.2.2.2.2.1
          have hlen' := hgood.len
          by_cases h0 : tryE us ⟨ticks, times, sum, once⟩ acard aamt nw = 0
          · obtain ⟨hmay, _⟩ := tryE_zero h0
            obtain ⟨hr, _⟩ := may_iff.1 hmay
            obtain rfl : rb = true := by rw [← HRR.out]; exact hr
            obtain ⟨t1, t2, t3, t4, t5, t6, t7, t8⟩ := right_iff.1 hr
            simp only at t1 t2 t3 t4 t5 t6 t7 t8
            have hbk := s6.fr.obj H5.out.2.1 H5.out.2.2.2.1
            have x5 := cell_of hbk 5
            have x6 := cell_of hbk 6
            simp at x5 x6
            have y0 := (h6.below.cell (p := ⟨w.heap.size, 0, none⟩) hrb).trans hrc.1
            have y1 := (h6.below.cell (p := ⟨w.heap.size, 1, none⟩) hrb).trans hrc.2.1
            have y2 := (h6.below.cell (p := ⟨w.heap.size, 2, none⟩) hrb).trans hrc.2.2.1
            have y3 := (h6.below.cell (p := ⟨w.heap.size, 3, none⟩) hrb).trans hrc.2.2.2
            have H6 := Lib.hid h6
            have hself := fun (e : acard = card) => Hi'.out.self (e ▸ h0)
            have Hoth := Lib.hid (fun (e : acard ≠ card) => Hi'.out.other hgood e aamt)
            have Hself := Lib.hid (And.intro h0 hself)
            rw [h0]
            clear h0 hself hmay hr s6 h6 hbk hgood hlen' Hi'
            by_cases hq : acard = card
            · subst hq
              obtain ⟨⟨z1, z2, z3⟩, hA, hB⟩ := Hself.out.2 rfl
              simp only at z1 z2 z3 hA hB
              by_cases hw : win = nw / ticks
              · obtain ⟨hi2, q1, q2⟩ := hA hw
                have Hi2 := Lib.hid hi2
                have hw' : (nw / ticks != win) = false := by rw [bne_eq_false_iff_eq]; exact hw.symm
                clear hA hB hi2 hw
                go_wp2_with fail
                go_roundw
                case rel => exact ⟨k + 1, _, F6, nw, win, ct + 1, cs + aamt, by omega, by go_num, rfl, rfl, rfl, rfl, H6.out, Hi2.out, hnw0, hnw1, by omega, by omega, by omega, by omega, by omega⟩
                case measure => simp [intOf]; omega
              · obtain ⟨hi2, q1, q2⟩ := hB hw
                have Hi2 := Lib.hid hi2
                have hw' : (nw / ticks != win) = true := by rw [bne_iff_ne]; exact fun e => hw e.symm
                clear hA hB hi2 hw
                go_wp2_with fail
                go_roundw
                case rel => exact ⟨k + 1, _, F6, nw, nw / ticks, 1, aamt, by omega, by go_num, rfl, rfl, rfl, by go_num, H6.out, Hi2.out, hnw0, hnw1, by omega, by omega, by omega, by omega, by omega⟩
                case measure => simp [intOf]; omega
            · have hq' := str_ne hq
              have Hi2 := Lib.hid (Hoth.out hq)
              clear hq Hoth Hself
              go_wp2_with fail
              go_roundw
              case rel => exact ⟨k + 1, _, F6, nw, win, ct, cs, by omega, by go_num, rfl, rfl, rfl, rfl, H6.out, Hi2.out, hnw0, hnw1, hc0, hc1, hs0, hs1, by omega⟩
              case measure => simp [intOf]; omega
          · have hL : tryL us ⟨ticks, times, sum, once⟩ acard aamt nw = us := by rw [tryL, if_neg h0]
            rw [hL] at h6
            have h0' : (tryE us ⟨ticks, times, sum, once⟩ acard aamt nw != 0) = true := by rw [bne_iff_ne]; exact h0
            have hrb1 : rb = false → (tryE us ⟨ticks, times, sum, once⟩ acard aamt nw != 1) = false := by
              intro e
              rw [bne_eq_false_iff_eq]
              refine try_arg ?_
              cases hm : mayB ⟨ticks, times, sum, once⟩ acard aamt nw with
              | false => rfl
              | true => obtain ⟨hr, _⟩ := may_iff.1 hm; rw [← HRR.out, hr] at e; cases e
            generalize tryE us ⟨ticks, times, sum, once⟩ acard aamt nw = x at *
            have hrow6 := H5.out.2.2.1.fr s6.fr H5.out.2.2.2.2.2
            have Hrow6 := Lib.hid hrow6
            have Hg := Lib.hid hgood
            clear hL h0 s6 hrow6 hgood x5 x6 y0 y1 y2 y3
            go_wp2_with fail
            refine (MyBook.list h6).mono ?_
            rintro e w7 ⟨vo2, vc2, rfl, h7, hrow7, f7, _⟩
            have hml := small_len (show us.length ≤ 100000 by omega)
            have Hsame := Lib.hid (same_rd vo vo2 vc vc2 us us w7 ((RowRd.of_at Hrow6.out hml).fr0 f7) (RowRd.of_at hrow7 hml) true (by simp))
            have H7 : Hid (MyBook w0 l us w7 F6) := Lib.hid h7
            clear h7 hrow7 f7 h6 hml hlen'
            go_wp2_with fail
            refine Hsame.out.mono ?_
            rintro e w8 ⟨rfl, f8⟩
            have H8 : Hid (MyBook w0 l us w8 F6) := Lib.hid (H7.out.keep f8)
            clear f8 H7 Hsame
            cases rb with
            | true =>
              clear hrb1
              go_wp2_with fail
              go_roundw
              case rel => exact ⟨k + 1, us, F6, nw, win, ct, cs, by omega, by go_num, rfl, rfl, rfl, rfl, H8.out, Hi'.out, hnw0, hnw1, hc0, hc1, hs0, hs1, by omega⟩
              case measure => simp [intOf]; omega
            | false =>
              have hx1 := hrb1 rfl
              clear hrb1
              go_wp2_with fail
              go_roundw
              case rel => exact ⟨k + 1, us, F6, nw, win, ct, cs, by omega, by go_num, rfl, rfl, rfl, rfl, H8.out, Hi'.out, hnw0, hnw1, hc0, hc1, hs0, hs1, by omega⟩
              case measure => simp [intOf]; omega
    · have hex : (k : Int) ≥ (xs.length : Int) ∨ ((k : Int) < (xs.length : Int) ∧ (k : Int) ≥ 200) := by omega
      have B := Lib.hid (hb0.trans (hm.below.mono (by omega)))
      clear hlt hm hi
      rcases hex with hex | ⟨hex, hex2⟩
      all_goals
        go_wp2_with fail
        go_ret
        exact ⟨rfl, B.out⟩
end Go.Proofs.Ytkcepppldhaiaaa
