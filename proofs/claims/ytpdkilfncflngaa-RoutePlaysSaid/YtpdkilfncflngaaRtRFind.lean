/-
  The document's table: Find.
-/
import Derived.Test.YtpdkilfncflngaaRtRef
namespace Go.Proofs.Ytpdkilfncflngaa
open Go.RowKit

set_option maxRecDepth 100000 in
set_option maxHeartbeats 1200000 in
theorem rfind_any {l : Nat} {rs : List Route} {w : World} {F : Nat → Prop} (h : RTableAt l rs w F) (s : ByteArray) (hs : s.size ≤ maxLen) :
    Calls Try.prog 16 #[.pointer (some ⟨l, 0, none⟩), .string s] w fun e w' => e = .returned (.tuple #[.int .i64 ((findR rs s).getD 0), .bool (findR rs s).isSome]) ∧ Fr noBlock w w' := by
  obtain ⟨hH, hgood⟩ := h
  obtain ⟨vo, cap, c0, _, hl, hcap, hcm, hrow, _, _, _, _⟩ := hH.opened
  have hlen := hgood.len
  have Hgood := Lib.hid hgood
  have Hrow := Lib.hid hrow
  have C0 := Lib.hid c0
  have hss : s.size ≤ 9223372036854775807 := by unfold maxLen at hs; omega
  clear hgood hrow c0 hH hcap hcm hs
  go_enter Try.func16, Try.ntmps16
  go_wp2_with fail
  go_loopw [6, 7] (fun s6 s7 wr => ∃ i : Nat, i ≤ rs.length ∧ s7 = .int .i64 i ∧ Fr noBlock w wr ∧ ((s6 = .int .i64 (-1) ∧ Hid (bestL s (rs.take i) = .empty)) ∨ ∃ j : Nat, j < i ∧ s6 = .int .i64 j ∧ Hid (∃ h : j < rs.length, rs[j].pre = bestL s (rs.take i)))) (fun _ s7 _ => rs.length - (intOf s7).toNat)
  case atStart => exact ⟨0, Nat.zero_le _, rfl, Fr.refl _ _, .inl ⟨rfl, Lib.hid rfl⟩⟩
  case round =>
    obtain ⟨i, hi, rfl, hf, hb⟩ := hrel
    have y0 := (hf.cell (p := ⟨l, 0, none⟩) hl (fun x => x)).trans C0.out
    have Hf := Lib.hid hf
    by_cases hlt : i < rs.length
    · have hlt' : (i : Int) < (rs.length : Int) := by omega
      have hi1 : i + 1 ≤ rs.length := by omega
      have Htk := Lib.hid (take_best (s := s) hlt)
      have Hme := Lib.hid (show ∃ h : i < rs.length, rs[i].pre = rs[i].pre from ⟨hlt, rfl⟩)
      have hpos : 0 < rs[i].pre.size := size_pos (fun e => by
        have h2 := pre_ne Hgood.out hlt
        rw [e] at h2
        have h3 : (ByteArray.empty.toList).isEmpty = true := by kernel_rfl
        rw [h3] at h2; cases h2)
      obtain ⟨g, rfl, hg, z0, _⟩ := route_cells (Hrow.out.fr0 hf) hlt
      have hnb : begB s rs[i].pre = false → bestL s (rs.take (i + 1)) = bestL s (rs.take i) := fun h => Htk.out.trans (if_neg (by simp [h]))
      by_cases hle : rs[i].pre.size ≤ s.size
      · have hle' : (rs[i].pre.size : Int) ≤ (s.size : Int) := by omega
        have hge : (0 : Int) ≤ (rs[i].pre.size : Int) := by omega
        by_cases hq : s.extract 0 rs[i].pre.size = rs[i].pre
        · have hbeg : begB s rs[i].pre = true := begB_iff.2 ⟨hle, hq⟩
          have hq' : ((s.extract 0 rs[i].pre.size).toList == rs[i].pre.toList) = true := by rw [hq]; simp
          rcases hb with ⟨rfl, hbe⟩ | ⟨j, hj, rfl, hbj⟩
          · have Hnew := Lib.hid (show ∃ h : i < rs.length, rs[i].pre = bestL s (rs.take (i + 1)) from ⟨hlt, by
              rw [Htk.out, if_pos]
              rw [hbe.out, hbeg]; simpa using hpos⟩)
            generalize rs[i].pre = pr at *
            clear hnb hbeg hq hf Htk Hme
            go_wp2_with fail
            go_roundw
            case rel => exact ⟨i + 1, hi1, by go_num, Hf.out, .inr ⟨i, by omega, rfl, Hnew⟩⟩
            case measure => simp [intOf]; omega
          · obtain ⟨hjl, hje⟩ := hbj.out
            obtain ⟨g', e, _, d0, _⟩ := route_cells (Hrow.out.fr0 hf) hjl
            cases e
            have hj' : (j : Int) < (rs.length : Int) := by omega
            by_cases hsz : rs[j].pre.size < rs[i].pre.size
            · have hsz' : (rs[j].pre.size : Int) < (rs[i].pre.size : Int) := by omega
              have Hnew := Lib.hid (show ∃ h : i < rs.length, rs[i].pre = bestL s (rs.take (i + 1)) from ⟨hlt, by
                rw [Htk.out, if_pos]
                rw [← hje, hbeg]; simpa using hsz⟩)
              generalize rs[i].pre = pr at *
              generalize rs[j].pre = pj at *
              clear hnb hbeg hq hf Htk Hme hje hbj
              go_wp2_with fail
              go_roundw
              case rel => exact ⟨i + 1, hi1, by go_num, Hf.out, .inr ⟨i, by omega, rfl, Hnew⟩⟩
              case measure => simp [intOf]; omega
            · have hsz' : (rs[i].pre.size : Int) ≤ (rs[j].pre.size : Int) := by omega
              have Hnew := Lib.hid (show ∃ h : j < rs.length, rs[j].pre = bestL s (rs.take (i + 1)) from ⟨hjl, by
                rw [Htk.out, if_neg]
                · exact hje
                · rw [← hje]; simp; intro _; omega⟩)
              generalize rs[i].pre = pr at *
              generalize rs[j].pre = pj at *
              clear hnb hbeg hq hf Htk Hme hje hbj
              go_wp2_with fail
              go_roundw
              case rel => exact ⟨i + 1, hi1, by go_num, Hf.out, .inr ⟨j, by omega, rfl, Hnew⟩⟩
              case measure => simp [intOf]; omega
        · have hbeg := hnb (by
            apply Bool.eq_false_iff.2
            intro e
            exact hq (begB_iff.1 e).2)
          have hq' := str_ne hq
          have Hbeg := Lib.hid hbeg
          have Hb := Lib.hid hb
          generalize rs[i].pre = pr at *
          clear hnb hbeg hq hf Htk Hme
          rcases hb with ⟨rfl, hbe⟩ | ⟨j, hj, rfl, hbj⟩
          · clear Hb
            go_wp2_with fail
            go_roundw
            case rel => exact ⟨i + 1, hi1, by go_num, Hf.out, .inl ⟨rfl, Lib.hid (Hbeg.out.trans hbe.out)⟩⟩
            case measure => simp [intOf]; omega
          · clear Hb
            go_wp2_with fail
            go_roundw
            case rel => exact ⟨i + 1, hi1, by go_num, Hf.out, .inr ⟨j, by omega, rfl, Lib.hid (by rw [Hbeg.out]; exact hbj.out)⟩⟩
            case measure => simp [intOf]; omega
      · have hle' : (s.size : Int) < (rs[i].pre.size : Int) := by omega
        have hbeg := hnb (by
          apply Bool.eq_false_iff.2
          intro e
          exact hle (begB_iff.1 e).1)
        have Hbeg := Lib.hid hbeg
        generalize rs[i].pre = pr at *
        clear hnb hbeg hle hf Htk Hme
        rcases hb with ⟨rfl, hbe⟩ | ⟨j, hj, rfl, hbj⟩
        · go_wp2_with fail
          go_roundw
          case rel => exact ⟨i + 1, hi1, by go_num, Hf.out, .inl ⟨rfl, Lib.hid (Hbeg.out.trans hbe.out)⟩⟩
          case measure => simp [intOf]; omega
        · go_wp2_with fail
          go_roundw
          case rel => exact ⟨i + 1, hi1, by go_num, Hf.out, .inr ⟨j, by omega, rfl, Lib.hid (by rw [Hbeg.out]; exact hbj.out)⟩⟩
          case measure => simp [intOf]; omega
    · have hlt' : (rs.length : Int) ≤ (i : Int) := by omega
      have ht : rs.take i = rs := List.take_of_length_le (by omega)
      rw [ht] at hb
      clear ht hf hlt
      rcases hb with ⟨rfl, hbe⟩ | ⟨j, hj, rfl, hbj⟩
      · have Hres := Lib.hid (best_none hbe.out)
        go_wp2_with fail
        go_ret2
        exact ⟨ret_two (by rw [Hres.out]; rfl) (by rw [Hres.out]; rfl), Hf.out⟩
      · obtain ⟨hjl, hje⟩ := hbj.out
        have hne : bestL s rs ≠ .empty := by
          intro e
          have h2 := pre_ne Hgood.out hjl
          rw [hje, e] at h2
          have h3 : (ByteArray.empty.toList).isEmpty = true := by kernel_rfl
          rw [h3] at h2; cases h2
        have Hres := Lib.hid (best_some Hgood.out (List.getElem_mem hjl) hje hne)
        obtain ⟨g', rfl, _, _, d1⟩ := route_cells (Hrow.out.fr0 Hf.out) hjl
        have hj' : (j : Int) < (rs.length : Int) := by omega
        generalize rs[j] = rj at *
        clear hje hbj hne
        go_wp2_with fail
        go_ret2
        exact ⟨ret_two (by rw [Hres.out]; rfl) (by rw [Hres.out]; rfl), Hf.out⟩
end Go.Proofs.Ytpdkilfncflngaa
