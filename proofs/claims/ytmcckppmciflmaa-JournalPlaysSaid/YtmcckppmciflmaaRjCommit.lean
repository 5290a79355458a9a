/-
  THE WALK of the document's Commit.
-/
import Derived.Deep.RegionHeld3
import Derived.Deep.CutBlock
import Derived.Outline
import Derived.Test.YtmcckppmciflmaaRjRun
import Derived.Test.YtmcckppmciflmaaRjMay
import Derived.Test.YtmcckppmciflmaaRjHead
import Derived.Test.YtmcckppmciflmaaJnAllP3
namespace Go.Proofs.Ytmcckppmciflmaa
open Go.RowKit

def RJCommitP (j L : Nat) (d : DK) (bad : Int) (l : List JW) (H : Nat → Prop) (w : World) (e : Ending) (w' : World) : Prop := ∃ H', e = .returned (.int .i64 (commitR d bad l).2.2) ∧ RJAt j L (commitR d bad l).1 (commitR d bad l).2.1 w' H' ∧ Step H H' w w'
theorem note_take {l : List JW} {i : Nat} (hi : i < l.length) : noteA 1 (l.take (i + 1)) = noteA 1 (l.take i) ++ [some (1 + (i : Int), l[i].2)] := by
  rw [List.take_succ_eq_append_getElem hi, noteA_snoc, List.length_take, Nat.min_eq_left (by omega)]
  rw [show ((1 + i : Nat) : Int) = 1 + (i : Int) by omega]
theorem home_take {l : List JW} {i : Nat} (hi : i < l.length) : homeA (l.take (i + 1)) = homeA (l.take i) ++ [some (9 + l[i].1, l[i].2)] := by
  unfold homeA
  rw [List.take_succ_eq_append_getElem hi, List.map_append]
  rfl
theorem homeA_append (a b : List JW) : homeA (a ++ b) = homeA a ++ homeA b := by unfold homeA; rw [List.map_append]
theorem noteA_append (a b : List JW) : ∀ k, noteA k (a ++ b) = noteA k a ++ noteA (k + a.length) b := by
  induction a with
  | nil => intro k; rfl
  | cons v a ih => intro k; show some _ :: noteA (k + 1) (a ++ b) = _; rw [ih, List.length_cons, show k + 1 + a.length = k + (a.length + 1) by omega]; rfl
theorem commit_note (l : List JW) (i size : Nat) : ∃ B, commitA l size = noteA 1 (l.take i) ++ B := by
  have h := noteA_append (l.take i) (l.drop i) 1
  rw [List.take_append_drop] at h
  unfold commitA
  rw [h]
  simp only [List.append_assoc]
  exact ⟨_, rfl⟩
theorem RC.commit {j L : Nat} {d dd : DK} {H H1 : Nat → Prop} {w wr : World} {l : List JW} {x : Int} (R : RC j L d H w (commitA l d.size) wr dd x H1) (hC : commitR d 0 l = ((jrun (d, 0) (commitA l d.size)).1, (jrun (d, 0) (commitA l d.size)).2, (jrun (d, 0) (commitA l d.size)).2)) :
    RJCommitP j L d 0 l H w (.returned (.int .i64 x)) wr := by
  rw [R.run] at hC
  exact ⟨H1, by rw [hC], by rw [hC]; exact R.at', R.st⟩
set_option maxRecDepth 100000 in
set_option maxHeartbeats 12800000 in
theorem rcommit_any {j L : Nat} {d : DK} {bad : Int} {w : World} {H : Nat → Prop} (h : RJAt j L d bad w H) {ao : Option Addr} {ws : List (Int × SV)} {l : List JW} (hw : JWrs w H ao ws l) (cap : Nat) (hll : l.length ≤ 9223372036854775807) (hmax : ∀ w ∈ l, w.2.length ≤ 9223372036854775807) :
    Calls Try.prog 77 #[.pointer (some ⟨j, 0, none⟩), .slice ao l.length cap] w (RJCommitP j L d bad l H w) := by
  have HA := Lib.hid h
  have HW := Lib.hid hw
  have HMax := Lib.hid hmax
  have Hmay := Lib.hid (rmay_any h hw cap hll hmax)
  obtain ⟨c0, c1, -, hj⟩ := h.cells
  have hs0 := h.good.s0
  have hs1 := h.good.s1
  have hn1 := h.good.n1
  clear h hw hmax
  by_cases hb : bad = 0
  · subst hb
    by_cases hm : mayE d l = 0
    · obtain ⟨hl8, hev⟩ := mayE_ok hm
      have hsec : ∀ w ∈ l, 0 ≤ w.1 ∧ w.1 < 65536 := by
        intro v hv
        have := (hev v hv).2
        unfold isJ secs at this
        simp at this
        omega
      have hsz : ∀ w ∈ l, w.2.length ≤ 4096 := fun v hv => by rw [(hev v hv).1]; exact hs1
      have HSec := Lib.hid hsec
      have HSz := Lib.hid hsz
      have HM := Lib.hid hm
      by_cases hl0 : l = []
      · have hC : commitR d 0 l = (d, 0, 0) := by unfold commitR; rw [if_neg (by simp), if_neg (by simpa using hm), if_pos hl0]
        have HC := Lib.hid hC
        subst hl0
        clear hC hm hev hsec hsz
        go_enter Try.func77, Try.ntmps77
        go_wp2_with fail
        refine Hmay.out.mono ?_
        rintro e w1 ⟨rfl, f1⟩
        have HF1 := Lib.hid f1
        rw [HM.out]
        clear f1
        go_wp2_with fail
        go_ret
        exact ⟨H, by rw [HC.out]; rfl, by rw [HC.out]; exact RJAt.ok.fr0 HA.out HF1.out, Step.same HF1.out⟩
      · have hl1 : 1 ≤ l.length := by cases l <;> simp_all
        have hC : commitR d 0 l = ((jrun (d, 0) (commitA l d.size)).1, (jrun (d, 0) (commitA l d.size)).2, (jrun (d, 0) (commitA l d.size)).2) := by unfold commitR; rw [if_neg (by simp), if_neg (by simpa using hm), if_neg hl0]
        have HC := Lib.hid hC
        have hl1I : ((l.length : Int) == 0) = false := by simp; omega
        clear hC hm hev hsec hsz hl0
        go_enter Try.func77, Try.ntmps77
        go_wp2_with fail
        refine Hmay.out.mono ?_
        rintro e w1 ⟨rfl, f1⟩
        have HR1 := Lib.hid ((RC.start HA.out).fr f1)
        rw [HM.out]
        clear f1 c0 c1
        go_wp2_with fail
        go_loopw [6] (fun s6 wr => ∃ (i : Nat) (dd : DK) (H1 : Nat → Prop), i ≤ l.length ∧ s6 = .int .i64 i ∧ Hid (RC j L d H w (noteA 1 (l.take i)) wr dd 0 H1)) (fun s6 _ => l.length - (intOf s6).toNat)
        case atStart => exact ⟨0, _, _, Nat.zero_le _, rfl, HR1⟩
        case round =>
          obtain ⟨i, dd, H1, hi, rfl, R⟩ := hrel
          clear HR1
          by_cases hlt : i < l.length
          · have q1 : (i : Int) < (l.length : Int) := by omega
            have hi' : i + 1 ≤ l.length := hlt
            obtain ⟨c0, c2⟩ := R.out.cells
            obtain ⟨b, off, s, rfl, hb, y0, y1, -, hsn, hbb⟩ := (HW.out.step R.out.st).at' hlt
            have hmx := HMax.out l[i] (List.getElem_mem hlt)
            have hna := note_take hlt
            generalize l[i] = q at *
            obtain ⟨qn, qb⟩ := q
            simp only at y0 y1 hmx hsn hbb hna
            have HB := Lib.hid hbb
            have Hna := Lib.hid hna
            have wp1 : IntKind.i64.wrap (1 + (i : Int)) = 1 + (i : Int) := IntWalk.i64_in _ (by omega)
            have hnb : ¬ H1 b := ((HW.out.step R.out.st).rows.ap (by have := HW.out.len; omega) ⟨b, off, none⟩ rfl).1
            have HY := Lib.hid (fun (W : World) (H' : Nat → Prop) (hT : Step H1 H' wr W) => ((hT.keep hb hnb).1 _).trans y1)
            clear hbb hna hlt y0 hsn hnb
            go_wp2_with fail
            go_region_held3 (fun W => W.cell? ⟨b, off + i * 2 + 1, none⟩ = some (.slice s.ao qb.length s.cap) ∧ W.cell? ⟨j, 0, none⟩ = some (.pointer (some ⟨L, 0, none⟩)))
              (first | exact ⟨HY.out _ _ (Step.same ((Fr.refl _ _).drew)), (R.out.fr ((Fr.refl _ _).drew)).at'.cells.1⟩ | exact ⟨HY.out _ _ ((Step.same ((Fr.refl _ _).drew)).trans hT5), hA5.cells.1⟩ | exact ⟨HY.out _ _ (((Step.same ((Fr.refl _ _).drew)).trans hT5).trans s6), h6.cells.1⟩)
              (first
                | (go_at_call 45; (with_reducible refine (rwrite_jat (R.out.fr ((Fr.refl _ _).drew)).at' _ (HB.out.fr ((Fr.refl _ _).drew)) s.cap hmx).mono ?_); rintro e w5 ⟨H5, rfl, hA5, hT5⟩)
                | (go_at_call 76; (with_reducible refine (rdo_any hA5 _).mono ?_); rintro e w6 ⟨rfl, h6, s6⟩))
            have hR6 := (R.out.fr ((Fr.refl _ _).drew)).write h6 (hT5.trans s6)
            rw [← Hna.out] at hR6
            have R6 := Lib.hid hR6
            clear hA5 hT5 h6 s6 hR6 wp1 c0 c2 y1
            obtain ⟨x, hx⟩ : ∃ x, dd.writeE (1 + (i : Int)) qb.length = x := ⟨_, rfl⟩
            rw [hx] at R6 ⊢
            clear hx
            by_cases h0 : x = 0
            · subst h0
              go_wp2_with fail
              go_roundw
              case rel => exact ⟨i + 1, _, _, hi', by go_num, R6⟩
              case measure => simp [intOf]; omega
            · have hb0 : (x == 0) = false := by simpa using h0
              have c1 := R6.out.badc
              have H0 := Lib.hid h0
              clear h0
              go_wp2_with fail
              go_ret
              obtain ⟨B, hB⟩ := commit_note l (i + 1) d.size
              have hR := R6.out.bad H0.out B
              rw [← hB] at hR
              exact hR.commit HC.out
          · have q1 : (l.length : Int) ≤ (i : Int) := by omega
            have e : i = l.length := by omega
            subst e
            rw [List.take_length] at R
            clear hlt
            have hs22 : 22 ≤ d.size := by omega
            obtain ⟨X0, hX0⟩ : ∃ X, headB 0 l d.size = X := ⟨_, rfl⟩
            obtain ⟨X1, hX1⟩ : ∃ X, headB 1 l d.size = X := ⟨_, rfl⟩
            have hca : commitA l d.size = noteA 1 l ++ [some (0, X0)] ++ [none] ++ [some (0, X1)] ++ [none] ++ homeA l ++ [none] ++ [some (0, X0)] ++ [none] := by unfold commitA; rw [hX0, hX1]; simp
            have HX0 := Lib.hid hX0
            have HX1 := Lib.hid hX1
            have HX0l := Lib.hid (show X0.length ≤ 9223372036854775807 by rw [← hX0, headB_len 0 hl8 hs22]; omega)
            have HX1l := Lib.hid (show X1.length ≤ 9223372036854775807 by rw [← hX1, headB_len 1 hl8 hs22]; omega)
            have Hca := Lib.hid hca
            clear hX0 hX1 hca
            go_wp2_with fail
            obtain ⟨cc0, cc1⟩ := R.out.cells
            go_region_held3 (fun W => W.cell? ⟨j, 0, none⟩ = some (.pointer (some ⟨L, 0, none⟩)) ∧ W.cell? ⟨L, 2, none⟩ = some (.int .i64 d.size))
              (first | exact (R.out.fr ((Fr.refl _ _).drew)).cells | exact (R.out.fr (((Fr.refl _ _).drew).trans' hf5)).cells | exact R.out.of_at hA6 (by rw [write_size]; exact R.out.size) | exact R.out.of_at h7 (by rw [write_size]; exact R.out.size))
              (first
                | (go_at_call 91; (with_reducible refine (rhead_jat ((HW.out.step R.out.st).fr ((Fr.refl _ _).drew)) (RJAt.ok.lt (R.out.fr ((Fr.refl _ _).drew)).at') cap hl8 HSec.out HSz.out 0 0 rfl d.size hs22 hs1 HX0.out).mono ?_); rintro e w5 ⟨sa, sc, rfl, hB5, hf5⟩)
                | (go_at_call 45; (with_reducible refine (rwrite_jat (R.out.fr (((Fr.refl _ _).drew).trans' hf5)).at' _ hB5 sc HX0l.out).mono ?_); rintro e w6 ⟨H6, rfl, hA6, hT6⟩)
                | (go_at_call 76; (with_reducible refine (rdo_any hA6 _).mono ?_); rintro e w7 ⟨rfl, h7, s7⟩))
            have hR7 := (R.out.fr (((Fr.refl _ _).drew).trans' hf5)).write h7 (hT6.trans s7)
            have R7 := Lib.hid hR7
            clear hB5 hf5 hA6 hT6 h7 s7 hR7 cc0 cc1
            obtain ⟨d7, hd7⟩ : ∃ D, dd.write 0 X0 = D := ⟨_, rfl⟩
            obtain ⟨y, hy⟩ : ∃ y, dd.writeE 0 X0.length = y := ⟨_, rfl⟩
            obtain ⟨A1, hA1⟩ : ∃ A, noteA 1 l ++ [some (0, X0)] = A := ⟨_, rfl⟩
            rw [hd7, hy, hA1] at R7
            rw [hy]
            have HAc1 := Lib.hid hA1
            clear hd7 hy hA1 R
            obtain ⟨R, hRR⟩ : ∃ R : Hid (RC j L d H w A1 w7 d7 y H6), R = R7 := ⟨_, rfl⟩
            clear hRR R7
            go_upto_region 13 with fail
            go_cut [8] from 56 to 81 (fun s8 wx => ∃ dx y Hx, s8 = .bool (y == 0) ∧ Hid (RC j L d H w (A1 ++ [none]) wx dx y Hx))
            case first =>
              by_cases h0 : y = 0
              · subst h0
                obtain ⟨cc0, _⟩ := R.out.cells
                go_wp2_with fail
                refine (rflush_jat R.out.at').mono ?_
                rintro e w8 ⟨H8, rfl, hA8, hT8⟩
                have HA8 := Lib.hid (And.intro hA8 hT8)
                clear hA8 hT8
                go_wp2_with fail
                refine (rdo_any HA8.out.1 _).mono ?_
                rintro e w9 ⟨rfl, h9, s9⟩
                have R9 := Lib.hid (R.out.flush h9 (HA8.out.2.trans s9))
                clear h9 s9 HA8
                go_wp2_with fail
                go_meet
                exact ⟨_, _, _, rfl, R9⟩
              · have hb0 : (y == 0) = false := by simpa using h0
                have H0 := Lib.hid h0
                clear h0
                go_wp2_with fail
                go_meet
                exact ⟨_, _, _, by rw [hb0], Lib.hid (R.out.bad H0.out _)⟩
            clear R
            obtain ⟨dd, y, H1, rfl, R⟩ := hcut
            obtain ⟨A2, hA2⟩ : ∃ A, A1 ++ [none] = A := ⟨_, rfl⟩
            rw [hA2] at R
            have HAcA2 := Lib.hid hA2
            clear hA2
            go_upto_region 14 with fail
            go_cut [8] from 82 to 100 (fun s8 wx => ∃ dx y Hx, s8 = .bool (y == 0) ∧ Hid (RC j L d H w (A2 ++ [some (0, X1)]) wx dx y Hx))
            case first =>
              by_cases h0 : y = 0
              · subst h0
                rw [show ((0 : Int) == 0) = true from rfl]
                obtain ⟨cc0, cc1⟩ := R.out.cells
                go_wp2_with fail
                go_region_held3 (fun W => W.cell? ⟨j, 0, none⟩ = some (.pointer (some ⟨L, 0, none⟩)) ∧ W.cell? ⟨L, 2, none⟩ = some (.int .i64 d.size))
                  (first | exact (R.out.fr ((Fr.refl _ _).drew)).cells | exact (R.out.fr (((Fr.refl _ _).drew).trans' hf5)).cells | exact R.out.of_at hA6 (by rw [write_size]; exact R.out.size) | exact R.out.of_at h7 (by rw [write_size]; exact R.out.size))
                  (first
                    | (go_at_call 91; (with_reducible refine (rhead_jat ((HW.out.step R.out.st).fr ((Fr.refl _ _).drew)) (RJAt.ok.lt (R.out.fr ((Fr.refl _ _).drew)).at') cap hl8 HSec.out HSz.out 1 1 rfl d.size hs22 hs1 HX1.out).mono ?_); rintro e w5 ⟨sa, sc, rfl, hB5, hf5⟩)
                    | (go_at_call 45; (with_reducible refine (rwrite_jat (R.out.fr (((Fr.refl _ _).drew).trans' hf5)).at' _ hB5 sc HX1l.out).mono ?_); rintro e w6 ⟨H6, rfl, hA6, hT6⟩)
                    | (go_at_call 76; (with_reducible refine (rdo_any hA6 _).mono ?_); rintro e w7 ⟨rfl, h7, s7⟩))
                have R9 := Lib.hid ((R.out.fr (((Fr.refl _ _).drew).trans' hf5)).write h7 (hT6.trans s7))
                clear hB5 hf5 hA6 hT6 h7 s7 cc0 cc1
                go_wp2_with fail
                go_meet
                exact ⟨_, _, _, rfl, R9⟩
              · have hb0 : (y == 0) = false := by simpa using h0
                have H0 := Lib.hid h0
                rw [hb0]
                clear h0
                go_wp2_with fail
                go_quiet (fail)
                go_wp2_with fail
                go_meet
                exact ⟨_, _, _, by rw [hb0], Lib.hid ((R.out.bad H0.out _).fr ((Fr.refl _ _).drewN _))⟩
            clear R
            obtain ⟨dd, y, H1, rfl, R⟩ := hcut
            obtain ⟨A3, hA3⟩ : ∃ A, A2 ++ [some (0, X1)] = A := ⟨_, rfl⟩
            rw [hA3] at R
            have HAcA3 := Lib.hid hA3
            clear hA3
            go_upto_region 15 with fail
            go_cut [8] from 101 to 110 (fun s8 wx => ∃ dx y Hx, s8 = .bool (y == 0) ∧ Hid (RC j L d H w (A3 ++ [none]) wx dx y Hx))
            case first =>
              by_cases h0 : y = 0
              · subst h0
                rw [show ((0 : Int) == 0) = true from rfl]
                obtain ⟨cc0, _⟩ := R.out.cells
                go_wp2_with fail
                refine (rflush_jat R.out.at').mono ?_
                rintro e w8 ⟨H8, rfl, hA8, hT8⟩
                have HA8 := Lib.hid (And.intro hA8 hT8)
                clear hA8 hT8
                go_wp2_with fail
                refine (rdo_any HA8.out.1 _).mono ?_
                rintro e w9 ⟨rfl, h9, s9⟩
                have R9 := Lib.hid (R.out.flush h9 (HA8.out.2.trans s9))
                clear h9 s9 HA8
                go_wp2_with fail
                go_meet
                exact ⟨_, _, _, rfl, R9⟩
              · have hb0 : (y == 0) = false := by simpa using h0
                have H0 := Lib.hid h0
                rw [hb0]
                clear h0
                go_wp2_with fail
                go_meet
                exact ⟨_, _, _, by rw [hb0], Lib.hid (R.out.bad H0.out _)⟩
            clear R
            obtain ⟨dd, y, H1, rfl, R⟩ := hcut
            obtain ⟨A4, hA4⟩ : ∃ A, A3 ++ [none] = A := ⟨_, rfl⟩
            rw [hA4] at R
            have HAcA4 := Lib.hid hA4
            clear hA4
            go_upto_block 2 with fail
            go_cut [8] from 111 to 138 (fun s8 wx => ∃ dx y Hx, s8 = .bool (y == 0) ∧ Hid (RC j L d H w (A4 ++ homeA l) wx dx y Hx))
            case first =>
              go_wp2_with fail
              go_loopw [8, 9] (fun s8 s9 wr => ∃ (i : Nat) (dd : DK) (y : Int) (H1 : Nat → Prop), i ≤ l.length ∧ s9 = .int .i64 i ∧ s8 = .bool (y == 0) ∧ Hid (RC j L d H w (A4 ++ homeA (l.take i)) wr dd y H1)) (fun _ s9 _ => l.length - (intOf s9).toNat)
              case atStart => exact ⟨0, _, _, _, Nat.zero_le _, rfl, rfl, by rw [show A4 ++ homeA (l.take 0) = A4 by simp [homeA]]; exact R⟩
              case round =>
                obtain ⟨i, dd, y, H1, hi, rfl, rfl, R'⟩ := hrel
                clear R
                obtain ⟨R, hRR⟩ : ∃ R, R = R' := ⟨_, rfl⟩
                clear hRR R'
                by_cases hlt : i < l.length
                · have q1 : (i : Int) < (l.length : Int) := by omega
                  by_cases h0 : y = 0
                  · subst h0
                    rw [show ((0 : Int) == 0) = true from rfl]
                    have hi' : i + 1 ≤ l.length := hlt
                    obtain ⟨c0, c2⟩ := R.out.cells
                    obtain ⟨b, off, s, rfl, hb, y0, y1, -, hsn, hbb⟩ := (HW.out.step R.out.st).at' hlt
                    have hmx := HMax.out l[i] (List.getElem_mem hlt)
                    have hse := HSec.out l[i] (List.getElem_mem hlt)
                    have hna := home_take hlt
                    have hnb : ¬ H1 b := ((HW.out.step R.out.st).rows.ap (by have := HW.out.len; omega) ⟨b, off, none⟩ rfl).1
                    generalize l[i] = q at *
                    obtain ⟨qn, qb⟩ := q
                    simp only at y0 y1 hmx hsn hbb hna hse
                    obtain ⟨hq0, hq1⟩ := hse
                    have HB := Lib.hid hbb
                    rw [show (9 : Int) + qn = qn + 8 + 1 by omega] at hna
                    have Hna := Lib.hid (show (A4 ++ homeA (l.take i)) ++ [some (qn + 8 + 1, qb)] = A4 ++ homeA (l.take (i + 1)) by rw [hna, List.append_assoc])
                    have wp1 : IntKind.i64.wrap (qn + 8) = qn + 8 := IntWalk.i64_in _ (by omega)
                    have wp2 : IntKind.i64.wrap (qn + 8 + 1) = qn + 8 + 1 := IntWalk.i64_in _ (by omega)
                    have HY := Lib.hid (fun (W : World) (H' : Nat → Prop) (hT : Step H1 H' wr W) => And.intro (((hT.keep hb hnb).1 _).trans y0) (((hT.keep hb hnb).1 _).trans y1))
                    clear hbb hna hlt hsn hnb
                    go_wp2_with fail
                    go_region_held3 (fun W => (W.cell? ⟨b, off + i * 2, none⟩ = some (.int .i64 qn) ∧ W.cell? ⟨b, off + i * 2 + 1, none⟩ = some (.slice s.ao qb.length s.cap)) ∧ W.cell? ⟨j, 0, none⟩ = some (.pointer (some ⟨L, 0, none⟩)))
                      (first | exact ⟨HY.out _ _ (Step.same ((Fr.refl _ _).drew)), (R.out.fr ((Fr.refl _ _).drew)).at'.cells.1⟩ | exact ⟨HY.out _ _ ((Step.same ((Fr.refl _ _).drew)).trans hT5), hA5.cells.1⟩ | exact ⟨HY.out _ _ (((Step.same ((Fr.refl _ _).drew)).trans hT5).trans s6), h6.cells.1⟩)
                      (first
                        | (go_at_call 45; (with_reducible refine (rwrite_jat (R.out.fr ((Fr.refl _ _).drew)).at' _ (HB.out.fr ((Fr.refl _ _).drew)) s.cap hmx).mono ?_); rintro e w5 ⟨H5, rfl, hA5, hT5⟩)
                        | (go_at_call 76; (with_reducible refine (rdo_any hA5 _).mono ?_); rintro e w6 ⟨rfl, h6, s6⟩))
                    have hR6 := (R.out.fr ((Fr.refl _ _).drew)).write h6 (hT5.trans s6)
                    rw [Hna.out] at hR6
                    have R6 := Lib.hid hR6
                    clear hA5 hT5 h6 s6 hR6 wp1 wp2 c0 c2 y0 y1
                    go_wp2_with fail
                    go_roundw
                    case rel => exact ⟨i + 1, _, _, _, hi', by go_num, rfl, R6⟩
                    case measure => simp [intOf]; omega
                  · have hb0 : (y == 0) = false := by simpa using h0
                    have H0 := Lib.hid h0
                    rw [hb0]
                    clear h0
                    have hR8 := R.out.bad H0.out (homeA (l.drop i))
                    rw [List.append_assoc, ← homeA_append, List.take_append_drop] at hR8
                    have R8 := Lib.hid hR8
                    clear hR8
                    go_wp2_with fail
                    go_meet
                    exact ⟨_, _, _, by rw [hb0], R8⟩
                · have q1 : (l.length : Int) ≤ (i : Int) := by omega
                  have e : i = l.length := by omega
                  subst e
                  rw [List.take_length] at R
                  clear hlt
                  go_wp2_with fail
                  go_meet
                  exact ⟨_, _, _, rfl, R⟩
            clear R
            obtain ⟨dd, y, H1, rfl, R⟩ := hcut
            obtain ⟨A5, hA5⟩ : ∃ A, A4 ++ homeA l = A := ⟨_, rfl⟩
            rw [hA5] at R
            have HAcA5 := Lib.hid hA5
            clear hA5
            go_upto_region 20 with fail
            go_cut [8] from 139 to 148 (fun s8 wx => ∃ dx y Hx, s8 = .bool (y == 0) ∧ Hid (RC j L d H w (A5 ++ [none]) wx dx y Hx))
            case first =>
              by_cases h0 : y = 0
              · subst h0
                rw [show ((0 : Int) == 0) = true from rfl]
                obtain ⟨cc0, _⟩ := R.out.cells
                go_wp2_with fail
                refine (rflush_jat R.out.at').mono ?_
                rintro e w8 ⟨H8, rfl, hA8, hT8⟩
                have HA8 := Lib.hid (And.intro hA8 hT8)
                clear hA8 hT8
                go_wp2_with fail
                refine (rdo_any HA8.out.1 _).mono ?_
                rintro e w9 ⟨rfl, h9, s9⟩
                have R9 := Lib.hid (R.out.flush h9 (HA8.out.2.trans s9))
                clear h9 s9 HA8
                go_wp2_with fail
                go_meet
                exact ⟨_, _, _, rfl, R9⟩
              · have hb0 : (y == 0) = false := by simpa using h0
                have H0 := Lib.hid h0
                rw [hb0]
                clear h0
                go_wp2_with fail
                go_meet
                exact ⟨_, _, _, by rw [hb0], Lib.hid (R.out.bad H0.out _)⟩
            clear R
            obtain ⟨dd, y, H1, rfl, R⟩ := hcut
            obtain ⟨A6, hA6⟩ : ∃ A, A5 ++ [none] = A := ⟨_, rfl⟩
            rw [hA6] at R
            have HAcA6 := Lib.hid hA6
            clear hA6
            go_upto_region 21 with fail
            go_cut [8] from 149 to 167 (fun s8 wx => ∃ dx y Hx, s8 = .bool (y == 0) ∧ Hid (RC j L d H w (A6 ++ [some (0, X0)]) wx dx y Hx))
            case first =>
              by_cases h0 : y = 0
              · subst h0
                rw [show ((0 : Int) == 0) = true from rfl]
                obtain ⟨cc0, cc1⟩ := R.out.cells
                go_wp2_with fail
                go_region_held3 (fun W => W.cell? ⟨j, 0, none⟩ = some (.pointer (some ⟨L, 0, none⟩)) ∧ W.cell? ⟨L, 2, none⟩ = some (.int .i64 d.size))
                  (first | exact (R.out.fr ((Fr.refl _ _).drew)).cells | exact (R.out.fr (((Fr.refl _ _).drew).trans' hf5)).cells | exact R.out.of_at hA6 (by rw [write_size]; exact R.out.size) | exact R.out.of_at h7 (by rw [write_size]; exact R.out.size))
                  (first
                    | (go_at_call 91; (with_reducible refine (rhead_jat ((HW.out.step R.out.st).fr ((Fr.refl _ _).drew)) (RJAt.ok.lt (R.out.fr ((Fr.refl _ _).drew)).at') cap hl8 HSec.out HSz.out 0 0 rfl d.size hs22 hs1 HX0.out).mono ?_); rintro e w5 ⟨sa, sc, rfl, hB5, hf5⟩)
                    | (go_at_call 45; (with_reducible refine (rwrite_jat (R.out.fr (((Fr.refl _ _).drew).trans' hf5)).at' _ hB5 sc HX0l.out).mono ?_); rintro e w6 ⟨H6, rfl, hA6, hT6⟩)
                    | (go_at_call 76; (with_reducible refine (rdo_any hA6 _).mono ?_); rintro e w7 ⟨rfl, h7, s7⟩))
                have R9 := Lib.hid ((R.out.fr (((Fr.refl _ _).drew).trans' hf5)).write h7 (hT6.trans s7))
                clear hB5 hf5 hA6 hT6 h7 s7 cc0 cc1
                go_wp2_with fail
                go_meet
                exact ⟨_, _, _, rfl, R9⟩
              · have hb0 : (y == 0) = false := by simpa using h0
                have H0 := Lib.hid h0
                rw [hb0]
                clear h0
                go_wp2_with fail
                go_quiet (fail)
                go_wp2_with fail
                go_meet
                exact ⟨_, _, _, by rw [hb0], Lib.hid ((R.out.bad H0.out _).fr ((Fr.refl _ _).drewN _))⟩
            clear R
            obtain ⟨dd, y, H1, rfl, R⟩ := hcut
            obtain ⟨A7, hA7⟩ : ∃ A, A6 ++ [some (0, X0)] = A := ⟨_, rfl⟩
            rw [hA7] at R
            have HAcA7 := Lib.hid hA7
            clear hA7
            go_upto_region 22 with fail
            go_cut [8] from 168 to 177 (fun s8 wx => ∃ dx y Hx, s8 = .bool (y == 0) ∧ Hid (RC j L d H w (A7 ++ [none]) wx dx y Hx))
            case first =>
              by_cases h0 : y = 0
              · subst h0
                rw [show ((0 : Int) == 0) = true from rfl]
                obtain ⟨cc0, _⟩ := R.out.cells
                go_wp2_with fail
                refine (rflush_jat R.out.at').mono ?_
                rintro e w8 ⟨H8, rfl, hA8, hT8⟩
                have HA8 := Lib.hid (And.intro hA8 hT8)
                clear hA8 hT8
                go_wp2_with fail
                refine (rdo_any HA8.out.1 _).mono ?_
                rintro e w9 ⟨rfl, h9, s9⟩
                have R9 := Lib.hid (R.out.flush h9 (HA8.out.2.trans s9))
                clear h9 s9 HA8
                go_wp2_with fail
                go_meet
                exact ⟨_, _, _, rfl, R9⟩
              · have hb0 : (y == 0) = false := by simpa using h0
                have H0 := Lib.hid h0
                rw [hb0]
                clear h0
                go_wp2_with fail
                go_meet
                exact ⟨_, _, _, by rw [hb0], Lib.hid (R.out.bad H0.out _)⟩
            clear R
            obtain ⟨dd, y, H1, rfl, R⟩ := hcut
            obtain ⟨A8, hA8⟩ : ∃ A, A7 ++ [none] = A := ⟨_, rfl⟩
            rw [hA8] at R
            have HAcA8 := Lib.hid hA8
            clear hA8
            have hR := R.out
            rw [← HAcA8.out, ← HAcA7.out, ← HAcA6.out, ← HAcA5.out, ← HAcA4.out, ← HAcA3.out, ← HAcA2.out, ← HAc1.out, ← Hca.out] at hR
            have c1 := hR.badc
            have HR := Lib.hid hR
            clear hR R
            go_wp2_with fail
            go_ret
            exact HR.out.commit HC.out
    · have hC : commitR d 0 l = (d, 0, mayE d l) := by unfold commitR; rw [if_neg (by simp), if_pos hm]
      have HC := Lib.hid hC
      obtain ⟨g, hg⟩ : ∃ g, mayE d l = g := ⟨_, rfl⟩
      rw [hg] at hm
      have hgb : (g != 0) = true := by simpa using hm
      have HG := Lib.hid hg
      clear hC hm hg
      go_enter Try.func77, Try.ntmps77
      go_wp2_with fail
      refine Hmay.out.mono ?_
      rintro e w1 ⟨rfl, f1⟩
      have HF1 := Lib.hid f1
      rw [HG.out]
      clear f1
      go_wp2_with fail
      go_ret
      exact ⟨H, by rw [HC.out, HG.out]; rfl, by rw [HC.out]; exact RJAt.ok.fr0 HA.out HF1.out, Step.same HF1.out⟩
  · have hC : commitR d bad l = (d, bad, bad) := by unfold commitR; rw [if_pos hb]
    have HC := Lib.hid hC
    have hbb : (bad != 0) = true := by simpa using hb
    clear hC hb
    go_enter Try.func77, Try.ntmps77
    go_wp2_with fail
    go_ret
    exact ⟨H, by rw [HC.out]; rfl, by rw [HC.out]; exact HA.out, Step.refl _ _⟩
end Go.Proofs.Ytmcckppmciflmaa
