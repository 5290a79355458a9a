/-
  THE WALK of the law LimitsBack.
-/
import Derived.Test.YtkcepppldhaiaaaLmBackPlain
namespace Go.Proofs.Ytkcepppldhaiaaa
open Go.RowKit

/-- what lies in the box of the act -/
theorem box_act {w0 wr : World} {ab : Nat} {a : LAct} (h : w0.heap[ab]? = some (.cells #[.int .i64 a.op, .int .i64 a.r.ticks, .int .i64 a.r.times, .int .i64 a.r.sum, .int .i64 a.r.once, .string a.card, .int .i64 a.amount, .int .i64 a.at_] 30 (0, 0))) (hb : Below w0.heap.size w0 wr) :
    wr.cell? ⟨ab, 1, none⟩ = some (.int .i64 a.r.ticks) ∧ wr.cell? ⟨ab, 2, none⟩ = some (.int .i64 a.r.times) ∧ wr.cell? ⟨ab, 3, none⟩ = some (.int .i64 a.r.sum) ∧ wr.cell? ⟨ab, 4, none⟩ = some (.int .i64 a.r.once) ∧ wr.cell? ⟨ab, 5, none⟩ = some (.string a.card) ∧ wr.cell? ⟨ab, 6, none⟩ = some (.int .i64 a.amount) ∧ wr.cell? ⟨ab, 7, none⟩ = some (.int .i64 a.at_) := by
  have hl := heap_lt h
  have hk := fun o => hb.cell (p := ⟨ab, o, none⟩) hl
  have y1 := (hk 1).trans (cell_of h 1)
  have y2 := (hk 2).trans (cell_of h 2)
  have y3 := (hk 3).trans (cell_of h 3)
  have y4 := (hk 4).trans (cell_of h 4)
  have y5 := (hk 5).trans (cell_of h 5)
  have y6 := (hk 6).trans (cell_of h 6)
  have y7 := (hk 7).trans (cell_of h 7)
  simp at y1 y2 y3 y4 y5 y6 y7
  exact ⟨y1, y2, y3, y4, y5, y6, y7⟩

/-- the books and the row that a law keeps -/
abbrev Kept (lb : Nat) (us : List Use) (v : Value) (was : List Use) : Thing := Two (BookAt lb us) (Row 40 UseR v was)
theorem Kept.ok {lb : Nat} {us : List Use} {v : Value} {was : List Use} : (Kept lb us v was).Ok := Two.ok BookAt.ok Row.ok

set_option maxRecDepth 100000 in
set_option maxHeartbeats 2000000 in
theorem back_walk (ao bo : Option Addr) (ca cb : Nat) (xs ys : List LAct) (a : LAct) (w : World) (hx : RowRd ActR w ao xs) (hy : RowRd ActR w bo ys) :
    Calls Try.prog 7 #[.slice ao xs.length ca, a.val, .slice bo ys.length cb] w fun e w' => e = .returned (.bool true) ∧ Below w.heap.size w w' := by
  have hxl := hx.len
  have hyl := hy.len
  unfold maxLen at hxl hyl
  have hf0 := (Fr.refl noBlock w).alloc (.cells #[.int .i64 a.op, .int .i64 a.r.ticks, .int .i64 a.r.times, .int .i64 a.r.sum, .int .i64 a.r.once, .string a.card, .int .i64 a.amount, .int .i64 a.at_] 30)
  have hx0 := hx.fr0 hf0
  have hy0 := hy.fr0 hf0
  have hbx := heap_new w (.cells #[.int .i64 a.op, .int .i64 a.r.ticks, .int .i64 a.r.times, .int .i64 a.r.sum, .int .i64 a.r.once, .string a.card, .int .i64 a.amount, .int .i64 a.at_] 30)
  obtain ⟨w0, hw0⟩ : ∃ w0, w0 = w.alloc (.cells #[.int .i64 a.op, .int .i64 a.r.ticks, .int .i64 a.r.times, .int .i64 a.r.sum, .int .i64 a.r.once, .string a.card, .int .i64 a.amount, .int .i64 a.at_] 30) := ⟨_, rfl⟩
  have hsz : w0.heap.size = w.heap.size + 1 := by rw [hw0]; simp
  have hb0 : Below w.heap.size w w0 := by rw [hw0]; exact hf0.below (Nat.le_refl _) (fun _ h => h.elim)
  have hrb : w.heap.size < w0.heap.size := by omega
  rw [← hw0] at hx0 hy0 hbx
  have Hw0 := Lib.hid hw0
  have Hbx := Lib.hid hbx
  have Hback := Lib.hid (fun (us : List Use) (hg : GoodU us) (h0 : tryE us a.r a.card a.amount a.at_ = 0) => back_ok hg h0)
  obtain ⟨op, ⟨ticks, times, sum, once⟩, card, amount, at_⟩ := a
  unfold LAct.val
  simp only at *
  clear hw0 hf0 hx hy hsz hbx
  go_enter Try.func7, Try.ntmps7
  go_wp2_with fail
  rw [← Hw0.out]
  refine (small_any _).mono ?_
  rintro e w1 ⟨rfl, b1⟩
  go_wp2_with fail
  refine (MyBook.new (w0 := w0) b1).mono ?_
  rintro e w2 ⟨lb, F2, rfl, h2⟩
  clear b1
  go_upto_block 0 with fail
  go_cut [] (fun wx => ∃ us F, MyBook w0 lb us wx F)
  case first =>
    go_wp2_with fail
    go_loopw [9] (fun s9 wr => ∃ (k : Nat) (us : List Use) (F : Nat → Prop), k ≤ xs.length ∧ s9 = .int .i64 k ∧ MyBook w0 lb us wr F) (fun s9 _ => xs.length - (intOf s9).toNat)
    case atStart => exact ⟨0, [], F2, Nat.zero_le _, rfl, h2⟩
    case round =>
      clear h2
      obtain ⟨k, us, F, hk, rfl, hm⟩ := hrel
      by_cases hlt : k < xs.length ∧ k < 100
      · obtain ⟨h1, h100⟩ := hlt
        obtain ⟨b, off, rfl, hb, c0, c1, c2, c3, c4, c5, c6, c7⟩ := act_cells (hx0.below hm.below) h1
        have h1' : (k : Int) < (xs.length : Int) := by omega
        have h100' : (k : Int) < 100 := by omega
        have Hdo := Lib.hid (hm.do_ xs[k] rfl rfl)
        unfold LAct.val at Hdo
        generalize doL us xs[k] = vs at *
        generalize doE us xs[k] = x at *
        generalize xs[k] = a at *
        clear hm
        go_wp2_with fail
        refine Hdo.out.mono ?_
        rintro e w3 ⟨F3, rfl, h3, _⟩
        go_wp2_with fail
        go_roundw
        case rel => exact ⟨k + 1, vs, F3, by omega, by go_num, h3⟩
        case measure => simp [intOf]; omega
      · have hex : (k : Int) ≥ (xs.length : Int) ∨ ((k : Int) < (xs.length : Int) ∧ (k : Int) ≥ 100) := by omega
        have Hm := Lib.hid hm
        clear hlt hm
        rcases hex with hex | ⟨hex, hex2⟩
        all_goals
          go_wp2_with fail
          go_meet
          exact ⟨us, F, Hm.out⟩
  case rest =>
    clear h2
    obtain ⟨us, F, hm⟩ := hcut
    obtain ⟨y1, y2, y3, y4, y5, y6, y7⟩ := box_act (a := ⟨op, ⟨ticks, times, sum, once⟩, card, amount, at_⟩) Hbx.out hm.below
    go_wp2_with fail
    refine (MyBook.list hm).mono ?_
    rintro e w4 ⟨vo, vc, rfl, h4, hrow4, f4, hn4⟩
    have hT : Mine w0 (Kept lb us (.slice vo us.length vc) us) w4 _ := Mine.join hm BookAt.ok f4 (show Row 40 UseR (.slice vo us.length vc) us w4 (fun k => (Value.slice vo us.length vc).ownBlock = some k) from ⟨hrow4, fun _ => Iff.rfl⟩) hn4
    have hgood := hm.good
    have hT' : ∃ H, Mine w0 (Kept lb us (.slice vo us.length vc) us) w4 H := ⟨_, hT⟩
    have HT := Lib.hid hT'
    have Hg := Lib.hid hgood
    clear hm h4 hrow4 f4 hn4 hT hT' hgood y1 y2 y3 y4 y5 y6 y7
    obtain ⟨H1, hT⟩ := HT.out
    obtain ⟨y1, y2, y3, y4, y5, y6, y7⟩ := box_act (a := ⟨op, ⟨ticks, times, sum, once⟩, card, amount, at_⟩) Hbx.out hT.below
    obtain ⟨F1, hB, hstep⟩ := hT.left Row.ok
    have Hstep := Lib.hid hstep
    have Htry := Lib.hid (try_any hB ⟨ticks, times, sum, once⟩ card amount at_ rfl rfl)
    unfold Rule.val at Htry
    clear hT hB hstep HT
    simp only at y1 y2 y3 y4 y5 y6 y7
    go_wp2_with fail
    refine Htry.out.mono ?_
    rintro e w5 ⟨F5, rfl, h5, s5⟩
    have HT5 := Lib.hid (Hstep.out _ _ _ h5 s5)
    clear h5 s5 Htry Hstep y1 y2 y3 y4 y5 y6 y7
    go_upto_if 55 with fail
    go_cut [] (fun wx => ∃ us F, MyBook w0 lb us wx F)
    case first =>
      obtain ⟨H5, hT5⟩ := HT5.out
      by_cases h0 : tryE us ⟨ticks, times, sum, once⟩ card amount at_ = 0
      · obtain ⟨hu0, hlen, hall⟩ := Hback.out us Hg.out h0
        rw [h0]
        generalize hvs : tryL us ⟨ticks, times, sum, once⟩ card amount at_ = vs at *
        have Hu0 := Lib.hid hu0
        have Hlen := Lib.hid hlen
        have Hall := Lib.hid hall
        clear h0 hu0 hlen hall hvs
        obtain ⟨F1, hB, hstep⟩ := hT5.left Row.ok
        have HT5' := Lib.hid hT5
        have Hl := Lib.hid (list_any hB.1 hB.2.len)
        clear hT5 hB hstep HT5
        go_wp2_with fail
        refine Hl.out.mono ?_
        rintro e w6 ⟨v6, rfl, hr6, f6, _⟩
        obtain ⟨ao6, vc6, rfl, _⟩ := hr6.shape
        have hT6 := HT5'.out.fr Kept.ok f6
        obtain ⟨y1, y2, y3, y4, y5, y6, y7⟩ := box_act (a := ⟨op, ⟨ticks, times, sum, once⟩, card, amount, at_⟩) Hbx.out hT6.below
        simp only at y1 y2 y3 y4 y5 y6 y7
        obtain ⟨F6, hB6, hstep6⟩ := hT6.left Row.ok
        have Hstep6 := Lib.hid hstep6
        have Hun := Lib.hid (undo_any hB6 ⟨ticks, times, sum, once⟩ card amount at_ Hu0.out rfl)
        unfold Rule.val at Hun
        simp only at Hun
        clear hr6 f6 hT6 hB6 hstep6 Hl HT5'
        go_wp2_with fail
        refine Hun.out.mono ?_
        rintro e w7 ⟨F7, rfl, h7, s7⟩
        obtain ⟨H7, hT7⟩ := Hstep6.out _ _ _ h7 s7
        obtain ⟨F7', hB7, _⟩ := hT7.left Row.ok
        have Hl := Lib.hid (list_any hB7.1 hB7.2.len)
        have HT7 := Lib.hid hT7
        clear h7 s7 hT7 hB7 Hun Hstep6 y1 y2 y3 y4 y5 y6 y7
        generalize undoL vs ⟨ticks, times, sum, once⟩ card amount at_ = zs at *
        go_wp2_with fail
        refine Hl.out.mono ?_
        rintro e w8 ⟨v8, rfl, hr8, f8, _⟩
        obtain ⟨ao8, vc8, rfl, _⟩ := hr8.shape
        have hT8 : Mine w0 (Kept lb zs (.slice vo us.length vc) us) w8 H7 := HT7.out.fr Kept.ok f8
        obtain ⟨G8, hW8⟩ := hT8.snd
        obtain ⟨G9, hM8⟩ := hT8.fst
        have Hwas := Lib.hid hW8.it.1
        have hgz := hM8.it.2.len
        have HM8 := Lib.hid (show MyBook w0 lb zs w8 G9 from hM8)
        have Hr8 := Lib.hid hr8
        have hul := Hg.out.len
        have hne : ((zs.length : Int) != (vs.length : Int)) = false := by rw [bne_eq_false_iff_eq, Hlen.out]
        clear hr8 f8 hT8 hW8 hM8 Hl HT7
        go_wp2_with fail
        clear hne
        go_loopw [13] (fun s13 wr => ∃ i : Nat, i ≤ zs.length ∧ s13 = .int .i64 i ∧ Fr noBlock w8 wr) (fun s13 _ => zs.length - (intOf s13).toNat)
        case atStart => exact ⟨0, Nat.zero_le _, rfl, Fr.refl _ _⟩
        case round =>
          obtain ⟨i, hi, rfl, hf⟩ := hrel
          obtain ⟨wo, rfl⟩ : ∃ wo : World, wo = wr := ⟨_, rfl⟩
          by_cases hlt : i < zs.length
          · obtain ⟨g, rfl, hgl, _, _, z0, z1, z2, z3, _⟩ := use_own (Hr8.out.fr0 hf) hlt
            have hi1 : (i : Int) < (zs.length : Int) := by omega
            have hi0 : (0 : Int) ≤ (i : Int) := by omega
            have hMr := HM8.out.keep hf
            obtain ⟨_, _, _, _, y5, _, _⟩ := box_act (a := ⟨op, ⟨ticks, times, sum, once⟩, card, amount, at_⟩) Hbx.out hMr.below
            simp only at y5
            have hbl : w.heap.size < wo.heap.size := Nat.lt_of_lt_of_le hrb hMr.size
            by_cases hc : zs[i].card = card
            · have hall := Hall.out i hlt hc
              rw [hc] at z0
              have Hz2 := Lib.hid z2
              have Hz3 := Lib.hid z3
              have Hf := Lib.hid hf
              clear z2 z3 hf hMr
              obtain ⟨wi, hwi⟩ : ∃ wi, zs[i].window = wi := ⟨_, rfl⟩
              rw [hwi] at z1 hall
              have Hze := Lib.hid hall
              have Hzc := Lib.hid hc
              clear hall hc hwi
              go_wp2_with fail
              go_quiet (fail)
              go_upto_region 21 with fail
              refine wp_at (fun W => Fr noBlock wo W) ((Fr.refl _ _).drewN _) ?_
              intro wq hq
              have p5 := (hq.cell (p := ⟨w.heap.size, 5, none⟩) hbl (fun x => x)).trans y5
              have p1 := (hq.cell (p := ⟨g, i * 4 + 1, none⟩) hgl (fun x => x)).trans z1
              have n5 := World.new_ne wq _ p5
              have n1 := World.new_ne wq _ p1
              have Hq := Lib.hid hq
              have Hz1 := Lib.hid z1
              have Hy5 := Lib.hid y5
              clear hq z1 y5
              go_region_held3 (fun x => x.cell? ⟨w.heap.size, 5, none⟩ = some (.string card) ∧ x.cell? ⟨g, i * 4 + 1, none⟩ = some (.int .i64 wi)) (go_keep) (fail)
              rename_i hkp
              have Hp5 := Lib.hid p5
              have Hp1 := Lib.hid p1
              clear hkp p5 p1 n5 n1
              have hst : Fr (fun k => k = wq.heap.size) wq (wq.alloc (.cells #[.string card, .int .i64 wi, .int .i64 0, .int .i64 0] 40)).drew ∧ (wq.alloc (.cells #[.string card, .int .i64 wi, .int .i64 0, .int .i64 0] 40)).drew.heap[wq.heap.size]? = some (.cells #[.string (curU (us.take 0) card wi).card, .int .i64 (curU (us.take 0) card wi).window, .int .i64 (curU (us.take 0) card wi).times, .int .i64 (curU (us.take 0) card wi).sum] 40 (0, 0)) :=
                ⟨((Fr.refl _ _).alloc _).drew, heap_new wq _⟩
              have Hst := Lib.hid hst
              clear hst
              have hwq8 : w8.heap.size ≤ wq.heap.size := Nat.le_trans Hf.out.size Hq.out.size
              go_wp2_with fail
              go_loopw [15] (fun s15 wr2 => ∃ j : Nat, j ≤ us.length ∧ s15 = .int .i64 j ∧ Fr (fun k => k = wq.heap.size) wq wr2 ∧ wr2.heap[wq.heap.size]? = some (.cells #[.string (curU (us.take j) card wi).card, .int .i64 (curU (us.take j) card wi).window, .int .i64 (curU (us.take j) card wi).times, .int .i64 (curU (us.take j) card wi).sum] 40 (0, 0))) (fun s15 _ => us.length - (intOf s15).toNat)
              case atStart => exact ⟨0, Nat.zero_le _, rfl, Hst.out.1, Hst.out.2⟩
              case round =>
                clear Hst
                obtain ⟨j, hj, rfl, hf2, hbx2⟩ := hrel
                have hwo := Hq.out.size
                have hwas8 := fun q hq' => Nat.lt_of_lt_of_le (Hwas.out.lt q hq') hwq8
                have hwasr := (Hwas.out.fr0 (Hf.out.trans' Hq.out)).fr hf2 (fun q hq' e => by have := hwas8 q hq'; omega)
                have y5 := (hf2.cell (p := ⟨w.heap.size, 5, none⟩) (Nat.lt_of_lt_of_le hbl hwo) (fun e : w.heap.size = wq.heap.size => by omega)).trans Hp5.out
                have hgl8 : g < w8.heap.size := Hr8.out.lt g rfl
                have z1 := (hf2.cell (p := ⟨g, i * 4 + 1, none⟩) (by show g < _; omega) (fun e : g = wq.heap.size => by omega)).trans Hp1.out
                have hobl := heap_lt hbx2
                have hww : w.heap.size ≠ wq.heap.size := by omega
                by_cases hlt2 : j < us.length
                · obtain ⟨g2, rfl, hgl2, _, _, x0, x1, x2, x3, _⟩ := use_own hwasr hlt2
                  have hj1 : (j : Int) < (us.length : Int) := by omega
                  have hj0 : (0 : Int) ≤ (j : Int) := by omega
                  have hg2 := hwas8 g2 rfl
                  have hgne : g2 ≠ wq.heap.size := by omega
                  have hct := cur_take Hg.out hlt2 card wi
                  have b0 := cell_of hbx2 0
                  have b1 := cell_of hbx2 1
                  have b2 := cell_of hbx2 2
                  have b3 := cell_of hbx2 3
                  have bf := free_of hbx2
                  have bf0 := bf 0
                  have bf1 := bf 1
                  have bf2 := bf 2
                  have bf3 := bf 3
                  simp at b0 b1 b2 b3
                  have HF2 := Lib.hid hf2
                  have HB2 := Lib.hid hbx2
                  clear hwasr hf2 hbx2 bf
                  by_cases hc2 : us[j].card = card
                  · by_cases hw2 : us[j].window = wi
                    · rw [if_pos ⟨hc2, hw2⟩] at hct
                      rw [hc2] at x0
                      rw [hw2] at x1
                      have Hct := Lib.hid (And.intro hct (And.intro hc2 hw2))
                      clear hct hc2 hw2
                      generalize us[j] = uj at *
                      go_wp2_with fail
                      go_quiet (fail)
                      go_wp2_with fail
                      go_roundw
                      case rel =>
                        refine ⟨j + 1, by omega, by go_num, ((((HF2.out.drewN _).setCell (p := ⟨wq.heap.size, 0, none⟩) (.inl rfl) _).setCell (p := ⟨wq.heap.size, 1, none⟩) (.inl rfl) _).setCell (p := ⟨wq.heap.size, 2, none⟩) (.inl rfl) _).setCell (p := ⟨wq.heap.size, 3, none⟩) (.inl rfl) _, ?_⟩
                        rw [Hct.out.1, Hct.out.2.1, Hct.out.2.2]
                        have := heap_set_eq (i := 3) (u := .int .i64 uj.sum) (heap_set_eq (i := 2) (u := .int .i64 uj.times) (heap_set_eq (i := 1) (u := .int .i64 wi) (heap_set_eq (i := 0) (u := .string card) (show (wr.drewN nq).heap[wq.heap.size]? = _ from HB2.out))))
                        simpa using this
                      case measure => simp [intOf]; omega
                    · rw [if_neg (fun h => hw2 h.2)] at hct
                      have hq2 : (us[j].window == wi) = false := by rw [beq_eq_false_iff_ne]; exact hw2
                      rw [hc2] at x0
                      have Hct := Lib.hid hct
                      clear hct hc2 hw2
                      generalize us[j] = uj at *
                      go_wp2_with fail
                      go_quiet (fail)
                      go_wp2_with fail
                      go_roundw
                      case rel => exact ⟨j + 1, by omega, by go_num, HF2.out.drewN _, by rw [Hct.out]; exact HB2.out⟩
                      case measure => simp [intOf]; omega
                  · rw [if_neg (fun h => hc2 h.1)] at hct
                    have hq2 : (us[j].card.toList == card.toList) = false := str_ne hc2
                    have Hct := Lib.hid hct
                    clear hct hc2
                    generalize us[j] = uj at *
                    go_wp2_with fail
                    go_quiet (fail)
                    go_wp2_with fail
                    go_roundw
                    case rel => exact ⟨j + 1, by omega, by go_num, HF2.out.drewN _, by rw [Hct.out]; exact HB2.out⟩
                    case measure => simp [intOf]; omega
                · have hj1 : (us.length : Int) ≤ (j : Int) := by omega
                  have htk : us.take j = us := List.take_of_length_le (by omega)
                  rw [htk] at hbx2
                  have hrz := ((Hr8.out.fr0 (Hf.out.trans' Hq.out)).fr hf2 (fun q hq' e => by have := Nat.lt_of_lt_of_le (Hr8.out.lt q hq') hwq8; omega))
                  obtain ⟨g3, e3, hgl3, _, _, x0, x1, x2, x3, _⟩ := use_own hrz hlt
                  obtain rfl : g3 = g := by simpa using e3.symm
                  rw [Hze.out] at x0 x1 x2 x3
                  generalize curU us card wi = cu at *
                  have b0 := cell_of hbx2 0
                  have b1 := cell_of hbx2 1
                  have b2 := cell_of hbx2 2
                  have b3 := cell_of hbx2 3
                  simp at b0 b1 b2 b3
                  have HF2 := Lib.hid hf2
                  have heq : ∀ W, (binOp .neq 40 (.agg #[.string cu.card, .int .i64 cu.window, .int .i64 cu.times, .int .i64 cu.sum]) (.agg #[.string cu.card, .int .i64 cu.window, .int .i64 cu.times, .int .i64 cu.sum])).run Try.prog W = .ok (.bool false) W := fun W => by rw [run_neq_use]; simp
                  clear hwasr hf2 hbx2 hrz htk e3 z1
                  go_wp2_with fail
                  go_quiet (fail)
                  go_wp2_with fail
                  go_roundw
                  case rel => exact ⟨i + 1, by omega, by go_num, ((Hf.out.trans' Hq.out).trans HF2.out (fun q hq' => .inr (by omega))).drewN _⟩
                  case measure => simp [intOf]; omega
            · have hq := str_ne hc
              have Hf := Lib.hid hf
              clear hf hMr z1 z2 z3 hc
              generalize zs[i].card = zc at *
              go_wp2_with fail
              go_quiet (fail)
              go_wp2_with fail
              go_roundw
              case rel => exact ⟨i + 1, by omega, by go_num, Hf.out.drewN _⟩
              case measure => simp [intOf]; omega
          · have hi1 : (zs.length : Int) ≤ (i : Int) := by omega
            have HMr := Lib.hid (HM8.out.keep hf)
            clear hf
            go_wp2_with fail
            go_meet
            exact ⟨zs, G9, HMr.out⟩
      · have hq : (tryE us ⟨ticks, times, sum, once⟩ card amount at_ == 0) = false := by rw [beq_eq_false_iff_ne]; exact h0
        have HT5' := Lib.hid hT5
        clear h0 hT5
        generalize tryE us ⟨ticks, times, sum, once⟩ card amount at_ = x at *
        go_wp2_with fail
        go_meet
        obtain ⟨G, hG⟩ := HT5'.out.fst
        exact ⟨_, G, hG⟩
    case rest =>
      clear HT5
      obtain ⟨us', F', hm⟩ := hcut
      have Hl := Lib.hid (MyBook.list hm)
      have hgb := hm.good
      have Hgb := Lib.hid hgb
      have hul := hgb.len
      clear hm hgb
      go_wp2_with fail
      refine Hl.out.mono ?_
      rintro e w9 ⟨ao9, vc9, rfl, h9, hr9, f9, _⟩
      have H9 := Lib.hid h9
      have Hre := Lib.hid (restore_any ao9 vc9 us' w9 (RowRd.of_at hr9 (small_len (by omega))))
      clear h9 hr9 f9 Hl
      go_wp2_with fail
      refine Hre.out.mono ?_
      rintro e w10 ⟨a0, E, rfl, f10, hA⟩
      rcases hA with ⟨rfl, _, lc, Fc, rfl, hc, hcn⟩ | ⟨rfl, hbad, rfl⟩
      case inr => exact absurd Hgb.out hbad
      have hT : ∃ H, Mine w0 (Two (BookAt lb us') (BookAt lc us')) w10 H := ⟨_, Mine.join H9.out BookAt.ok f10 hc hcn⟩
      have HT := Lib.hid hT
      clear f10 hc hcn hT Hre
      go_wp2_with fail
      go_loopw [18] (fun s18 wr => ∃ (k : Nat) (zs : List Use) (H : Nat → Prop), k ≤ ys.length ∧ s18 = .int .i64 k ∧ Mine w0 (Two (BookAt lb zs) (BookAt lc zs)) wr H) (fun s18 _ => ys.length - (intOf s18).toNat)
      case atStart => exact ⟨0, us', HT.out.choose, Nat.zero_le _, rfl, HT.out.choose_spec⟩
      case round =>
        clear HT
        obtain ⟨k, zs, H, hk, rfl, hm⟩ := hrel
        by_cases hlt : k < ys.length ∧ k < 100
        · obtain ⟨h1, h100⟩ := hlt
          obtain ⟨b, off, rfl, hb, c0, c1, c2, c3, c4, c5, c6, c7⟩ := act_cells hy0 h1
          have h1' : (k : Int) < (ys.length : Int) := by omega
          have h100' : (k : Int) < 100 := by omega
          have hk0 : (0 : Int) ≤ (k : Int) := by omega
          have hS : ∀ W, Below w0.heap.size w0 W → W.cell? ⟨b, off + k * 8, none⟩ = some (.int .i64 ys[k].op) ∧ W.cell? ⟨b, off + k * 8 + 1, none⟩ = some (.int .i64 ys[k].r.ticks) ∧ W.cell? ⟨b, off + k * 8 + 2, none⟩ = some (.int .i64 ys[k].r.times) ∧ W.cell? ⟨b, off + k * 8 + 3, none⟩ = some (.int .i64 ys[k].r.sum) ∧
              W.cell? ⟨b, off + k * 8 + 4, none⟩ = some (.int .i64 ys[k].r.once) ∧ W.cell? ⟨b, off + k * 8 + 5, none⟩ = some (.string ys[k].card) ∧ W.cell? ⟨b, off + k * 8 + 6, none⟩ = some (.int .i64 ys[k].amount) ∧ W.cell? ⟨b, off + k * 8 + 7, none⟩ = some (.int .i64 ys[k].at_) := fun W hW =>
            ⟨(hW.cell (p := ⟨b, _, none⟩) hb).trans c0, (hW.cell (p := ⟨b, _, none⟩) hb).trans c1, (hW.cell (p := ⟨b, _, none⟩) hb).trans c2, (hW.cell (p := ⟨b, _, none⟩) hb).trans c3, (hW.cell (p := ⟨b, _, none⟩) hb).trans c4, (hW.cell (p := ⟨b, _, none⟩) hb).trans c5, (hW.cell (p := ⟨b, _, none⟩) hb).trans c6, (hW.cell (p := ⟨b, _, none⟩) hb).trans c7⟩
          have hmd : Mine w0 (Two (BookAt lb zs) (BookAt lc zs)) wr.drew H := hm.fr (Two.ok BookAt.ok BookAt.ok) ((Fr.refl _ _).drew)
          obtain ⟨G1, hB1, hstep1⟩ := hmd.left BookAt.ok
          have Hdo1 := Lib.hid (do_any hB1 ys[k] rfl rfl)
          have Hdo2 := Lib.hid (fun (W : World) (G : Nat → Prop) (h : BookAt lc zs W G) => do_any h ys[k] rfl rfl)
          have HS := Lib.hid hS
          have HS0 := Lib.hid (hS _ hm.below)
          have Hstep1 := Lib.hid hstep1
          unfold LAct.val at Hdo1 Hdo2
          generalize doL zs ys[k] = zs' at *
          generalize doE zs ys[k] = x at *
          generalize ys[k] = q at *
          clear hm hmd hB1 hstep1 c0 c1 c2 c3 c4 c5 c6 c7 hS
          have hbw : b < w0.heap.size := hb
          go_wp2_with fail
          go_region_held3 (fun W => W.cell? ⟨b, off + k * 8, none⟩ = some (.int .i64 q.op) ∧ W.cell? ⟨b, off + k * 8 + 1, none⟩ = some (.int .i64 q.r.ticks) ∧ W.cell? ⟨b, off + k * 8 + 2, none⟩ = some (.int .i64 q.r.times) ∧ W.cell? ⟨b, off + k * 8 + 3, none⟩ = some (.int .i64 q.r.sum) ∧
              W.cell? ⟨b, off + k * 8 + 4, none⟩ = some (.int .i64 q.r.once) ∧ W.cell? ⟨b, off + k * 8 + 5, none⟩ = some (.string q.card) ∧ W.cell? ⟨b, off + k * 8 + 6, none⟩ = some (.int .i64 q.amount) ∧ W.cell? ⟨b, off + k * 8 + 7, none⟩ = some (.int .i64 q.at_))
            (first | exact HS0.out | exact hS5 | exact hS4 | exact hS3 | exact hS2 | exact hS1)
            (first
              | (go_at_call 14; (with_reducible refine Hdo1.out.mono ?_); rintro e w11 ⟨G', rfl, g1, s1⟩; obtain ⟨H1, hT1⟩ := Hstep1.out _ _ _ g1 s1; have hS1 := HS.out _ hT1.below; obtain ⟨G2, hB2, hstep2⟩ := hT1.right BookAt.ok; have Hdo2' := Lib.hid (Hdo2.out _ _ hB2); clear g1 s1 hB2)
              | (go_at_call 14; (with_reducible refine Hdo2'.out.mono ?_); rintro e w12 ⟨G'', rfl, g2, s2⟩; obtain ⟨H2, hT2⟩ := hstep2 _ _ _ g2 s2; have hS2 := HS.out _ hT2.below; obtain ⟨G3, hB3, _⟩ := hT2.left BookAt.ok; have Hl1 := Lib.hid (list_any hB3.1 hB3.2.len); have hml := small_len (Nat.le_trans hB3.2.len (show 16 ≤ 100000 from of_decide_eq_true rfl)); clear g2 s2 hB3 hstep2)
              | (go_at_call 11; (with_reducible refine Hl1.out.mono ?_); rintro e w13 ⟨v13, rfl, hr13, f13, _⟩; obtain ⟨ao13, vc13, rfl, _⟩ := hr13.shape; have hT3 := hT2.fr (Two.ok BookAt.ok BookAt.ok) f13; have hS3 := HS.out _ hT3.below; obtain ⟨G4, hB4, _⟩ := hT3.right BookAt.ok; have Hl2 := Lib.hid (list_any hB4.1 hB4.2.len); clear hB4)
              | (go_at_call 11; (with_reducible refine Hl2.out.mono ?_); rintro e w14 ⟨v14, rfl, hr14, f14, _⟩; obtain ⟨ao14, vc14, rfl, _⟩ := hr14.shape; have hT4 := hT3.fr (Two.ok BookAt.ok BookAt.ok) f14; have hS4 := HS.out _ hT4.below; have Hsm := Lib.hid (same_rd ao13 ao14 vc13 vc14 zs' zs' w14 ((RowRd.of_at hr13 hml).fr0 f14) (RowRd.of_at hr14 hml) true ⟨fun _ => rfl, fun _ => rfl⟩))
              | (go_at_call 13; (with_reducible refine Hsm.out.mono ?_); rintro e w15 ⟨rfl, f15⟩; have hT5 := hT4.fr (Two.ok BookAt.ok BookAt.ok) f15; have hS5 := HS.out _ hT5.below))
          go_wp2_with fail
          go_roundw
          case rel => exact ⟨k + 1, zs', H2, by omega, by go_num, hT5⟩
          case measure => simp [intOf]; omega
        · have hex : (k : Int) ≥ (ys.length : Int) ∨ ((k : Int) < (ys.length : Int) ∧ (k : Int) ≥ 100) := by omega
          have B := Lib.hid (hb0.trans (hm.below.mono (by omega)))
          clear hlt hm
          rcases hex with hex | ⟨hex, hex2⟩
          all_goals
            go_wp2_with fail
            go_ret
            exact ⟨rfl, B.out⟩
end Go.Proofs.Ytkcepppldhaiaaa
