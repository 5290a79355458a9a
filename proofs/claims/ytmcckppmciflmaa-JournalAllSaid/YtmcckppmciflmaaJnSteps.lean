/-
  THE WALK of the journal's steps: acts in order, up to the first error.
-/
import Derived.Test.YtmcckppmciflmaaJnAt
namespace Go.Proofs.Ytmcckppmciflmaa
open Go.RowKit

theorem stp_rd {l : Nat} {w : World} {b off : Nat} {ss : List Stp} (h : RowRd (StpR l) w (some ⟨b, off, none⟩) ss) {i : Nat} (hi : i < ss.length) : w.cell? ⟨b, off + i, none⟩ = some (ss[i].val l) := by
  obtain ⟨b', off', e, _, h3⟩ := h.at' i hi
  cases e
  have := h3 0 (ss[i].val l) rfl
  simpa [stpK] using this
set_option maxRecDepth 100000 in
set_option maxHeartbeats 1600000 in
theorem steps_any' {j l : Nat} {d : DK} {bad : Int} {w : World} {H : Nat → Prop} (h : JAt j l d bad w H) {lo : Option Addr} {ss : List Stp} (hs : Bes (StpR l) lo ss w H) (ho : ∀ s ∈ ss, s.Ok w H j) (cap : Nat) (hl : ss.length ≤ 1000000) {r : DK × Int} (hr : jrun (d, bad) (ss.map Stp.act) = r) :
    Calls Try.prog 54 #[.pointer (some ⟨j, 0, none⟩), .slice lo ss.length cap] w (JWriteP j l r.1 r.2 r.2 H w) := by
  have HH := Lib.hid h
  have HS := Lib.hid hs
  have HO := Lib.hid ho
  have HR := Lib.hid hr
  have e1 := enters_of Try.func72 (by kernel_rfl) rfl
  have e2 := enters_of Try.func15 (by kernel_rfl) rfl
  clear h hs ho hr
  go_enter Try.func54, Try.ntmps54
  go_wp2_with fail
  go_loopw [9] (fun s9 wr => ∃ (i : Nat) (d' : DK) (bad' : Int) (H' : Nat → Prop), i ≤ ss.length ∧ s9 = .int .i64 i ∧ Hid (jrun (d, bad) ((ss.take i).map Stp.act) = (d', bad')) ∧ JAt j l d' bad' wr H' ∧ Step H H' w wr) (fun s9 _ => ss.length - (intOf s9).toNat)
  case atStart => exact ⟨0, d, bad, H, Nat.zero_le _, rfl, Lib.hid rfl, HH.out, Step.refl _ _⟩
  case round =>
    obtain ⟨i, d', bad', H', hi, rfl, HJ, hA, hT⟩ := hrel
    obtain ⟨c0, c1, z1, -⟩ := hA.cells
    have HA := Lib.hid (And.intro hA hT)
    clear hA hT
    by_cases hlt : i < ss.length
    · have q1 : (i : Int) < (ss.length : Int) := by omega
      have hrd := (HS.out.step HA.out.2).rd
      obtain ⟨bb, off, rfl, -, -⟩ := hrd.at' i hlt
      have y0 := stp_rd hrd hlt
      have hok := (HO.out ss[i] (List.getElem_mem hlt)).step HA.out.2
      have hnx : jrun (d, bad) ((ss.take (i + 1)).map Stp.act) = jstep (d', bad') ss[i].act := by
        rw [List.take_succ_eq_append_getElem hlt, List.map_append, List.map_singleton, jrun_snoc, HJ.out]
      have Hlt := Lib.hid hlt
      generalize ss[i] = s at *
      by_cases hb0 : bad' = 0
      · subst hb0
        cases s with
        | wr p3 p4 p5 n sv b =>
          have Hnx := Lib.hid (hnx.trans (show jstep (d', 0) (some (n, b)) = (d'.write n b, d'.writeE n b.length) by unfold jstep; rw [if_pos rfl]))
          have Hok := Lib.hid (show WCell wr H' j p3 p4 p5 n sv b from hok)
          unfold Stp.val at y0
          clear hrd hok hnx hlt
          go_wp2_with fail
          refine (jclos_any HA.out.1 Hok.out).mono ?_
          rintro e w1 ⟨H1, rfl, hA1, hT1⟩
          obtain ⟨-, x1, x2, -⟩ := hA1.cells
          have HB := Lib.hid (And.intro hA1 (HA.out.2.trans hT1))
          clear hA1 hT1
          go_wp2_with fail
          go_roundw
          case rel =>
            obtain ⟨g1, g2⟩ := HB.out.1.setBad (d'.writeE n b.length)
            exact ⟨i + 1, _, _, _, by have := Hlt.out; omega, by go_num, Lib.hid Hnx.out, g1, HB.out.2.trans g2⟩
          case measure => have := Hlt.out; simp [intOf]; omega
        | fl =>
          have Hnx := Lib.hid (hnx.trans (show jstep (d', 0) none = (d'.flush, d'.flushE) by unfold jstep; rw [if_pos rfl]))
          unfold Stp.val at y0
          clear hrd hok hnx hlt
          go_wp2_with fail
          obtain ⟨G, hG, hsub, st⟩ := HA.out.1.disk
          refine (flush_any hG).mono ?_
          rintro e w1 ⟨G1, rfl, h1, s1⟩
          obtain ⟨H1, hA1, hT1⟩ := st _ _ _ h1 s1
          obtain ⟨-, x1, x2, -⟩ := hA1.cells
          have HB := Lib.hid (And.intro hA1 (HA.out.2.trans hT1))
          clear hA1 hT1 hG hsub st h1 s1
          go_wp2_with fail
          go_roundw
          case rel =>
            obtain ⟨g1, g2⟩ := HB.out.1.setBad d'.flushE
            exact ⟨i + 1, _, _, _, by have := Hlt.out; omega, by go_num, Lib.hid Hnx.out, g1, HB.out.2.trans g2⟩
          case measure => have := Hlt.out; simp [intOf]; omega
      · have Hnx := Lib.hid (hnx.trans (jstep_bad (s := (d', bad')) hb0 _))
        have hbb : (bad' == 0) = false := by simpa using hb0
        clear hrd hok hnx hlt hb0
        go_wp2_with fail
        go_roundw
        case rel => exact ⟨i + 1, _, _, _, by have := Hlt.out; omega, by go_num, Lib.hid Hnx.out, HA.out.1, HA.out.2⟩
        case measure => have := Hlt.out; simp [intOf]; omega
    · have q1 : (ss.length : Int) ≤ (i : Int) := by omega
      have e : i = ss.length := by omega
      subst e
      rw [List.take_length] at HJ
      clear hlt
      go_wp2_with fail
      go_ret
      have hr := HR.out.symm.trans HJ.out
      subst hr
      exact ⟨H', rfl, HA.out.1, HA.out.2⟩
end Go.Proofs.Ytmcckppmciflmaa
