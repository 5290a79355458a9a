/-
  RouteLongest: the walk.
-/
import Derived.Test.YtpdkilfncflngaaRtLongP
import Derived.Sort.Walk0
namespace Go.Proofs.Ytpdkilfncflngaa
open Go.RowKit

theorem str_ne {a b : ByteArray} (h : ¬ a = b) : (a.toList == b.toList) = false := by
  rw [beq_eq_false_iff_ne]
  intro e
  exact h (toList_inj' e)
theorem route_cells {w : World} {ao : Option Addr} {n cap : Nat} {rs : List Route} (h : RowAt 42 RouteR w (.slice ao n cap) rs) {i : Nat} (hi : i < rs.length) :
    ∃ g, ao = some ⟨g, 0, none⟩ ∧ g < w.heap.size ∧ w.cell? ⟨g, i * 2, none⟩ = some (.string rs[i].pre) ∧ w.cell? ⟨g, i * 2 + 1, none⟩ = some (.int .i64 rs[i].target) := by
  obtain ⟨g, h1, h2, _, _, h3, _⟩ := h.elem hi
  exact ⟨g, h1, h2, h3 0 _ rfl, h3 1 _ rfl⟩
theorem take_best {rs : List Route} {s : ByteArray} {i : Nat} (h : i < rs.length) : bestL s (rs.take (i + 1)) = if begB s rs[i].pre && decide ((bestL s (rs.take i)).size < rs[i].pre.size) then rs[i].pre else bestL s (rs.take i) := by
  rw [List.take_succ_eq_append_getElem h, bestL_snoc]
theorem pre_ne {rs : List Route} (hg : GoodR rs) {i : Nat} (h : i < rs.length) : rs[i].pre.toList.isEmpty = false := (preB_iff.1 (hg.pre _ (List.getElem_mem h))).2.1
theorem pre_leq {rs : List Route} (hg : GoodR rs) {i : Nat} (h : i + 1 < rs.length) : Op.bytesLess rs[i + 1].pre.toList rs[i].pre.toList = false ∧ (rs[i + 1].pre.toList == rs[i].pre.toList) = false := by
  have hlt : ltB rs[i].pre rs[i + 1].pre := List.pairwise_iff_getElem.1 hg.sorted i (i + 1) (by omega) h (by omega)
  refine ⟨?_, str_ne (fun e => by rw [e] at hlt; exact ltB_irrefl _ hlt)⟩
  rw [bytesLess_eq]
  simp only [decide_eq_false_iff_not]
  exact ltB_asymm hlt

set_option maxRecDepth 100000 in
set_option maxHeartbeats 1600000 in
theorem long_walk (ao : Option Addr) (cap : Nat) (xs : List LAct) (s : ByteArray) (w : World) (hx : RowRd ActR w ao xs) (hxs : ∀ y ∈ xs, y.s.size ≤ maxLen) (hs : s.size ≤ maxLen) :
    Calls Try.prog 5 #[.slice ao xs.length cap, .string s] w fun e w' => e = .returned (.bool true) ∧ Below w.heap.size w w' := by
  have Hxs := Lib.hid hxs
  have Hx := Lib.hid hx
  clear hx hxs
  go_enter Try.func5, Try.ntmps5
  go_wp2_with fail
  refine (small_any _).mono ?_
  rintro e w0 ⟨rfl, f0⟩
  go_wp2_with fail
  refine (made_any ao cap xs w0 (Hx.out.fr0 f0) Hxs.out).mono ?_
  rintro e w1 ⟨l, F1, rfl, h1, f1, n1⟩
  have M1 := Lib.hid (Mine.new (f0.below (Nat.le_refl _) (fun _ h => h.elim)) f1 h1 n1)
  obtain ⟨rs, hrs⟩ : ∃ rs, madeL xs = rs := ⟨_, rfl⟩
  rw [hrs] at M1
  have hgood : GoodR rs := M1.out.it.choose_spec.2.2.2.2
  have hlen := hgood.len
  have Hgood := Lib.hid hgood
  clear f0 f1 n1 h1 hrs hgood
  go_wp2_with fail
  refine (find_any M1.out.it s hs).mono ?_
  rintro e w2 ⟨rfl, f2⟩
  have M2 := Lib.hid (M1.out.fr TableAt.ok f2)
  clear f2
  obtain ⟨fr, hfr⟩ : ∃ fr, findR rs s = fr := ⟨_, rfl⟩
  rw [hfr]
  obtain ⟨fn, hfn⟩ : ∃ fn, fr.getD 0 = fn := ⟨_, rfl⟩
  obtain ⟨fb, hfb⟩ : ∃ fb, fr.isSome = fb := ⟨_, rfl⟩
  rw [hfn, hfb]
  have Hfn := Lib.hid hfn
  have Hfb := Lib.hid hfb
  have Hfr := Lib.hid hfr
  clear hfn hfb hfr
  go_wp2_with fail
  refine (list_any M2.out.it).mono ?_
  rintro e w3 ⟨v, rfl, r3, f3, _⟩
  obtain ⟨la, lc, rfl, _, _, _, _⟩ := r3.shape
  have R3 := Lib.hid r3
  have B3 := Lib.hid ((M2.out.fr TableAt.ok f3).below)
  clear r3 f3
  go_wp2_with fail
  go_loopw [10, 11] (fun s10 s11 wr => ∃ i : Nat, i ≤ rs.length ∧ s11 = .int .i64 i ∧ s10 = .string (bestL s (rs.take i)) ∧ Fr noBlock w3 wr) (fun _ s11 _ => rs.length - (intOf s11).toNat)
  case atStart => exact ⟨0, Nat.zero_le _, rfl, rfl, Fr.refl _ _⟩
  case round =>
    obtain ⟨i, hi, rfl, rfl, hf⟩ := hrel
    by_cases hlt : i < rs.length
    · have hlt' : (i : Int) < (rs.length : Int) := by omega
      obtain ⟨g, rfl, hg, c0, _⟩ := route_cells R3.out hlt
      have hne := pre_ne Hgood.out hlt
      have Htk := Lib.hid (take_best (s := s) hlt)
      have hi1 : i + 1 ≤ rs.length := by omega
      have hpv : (i : Int) ≤ 0 ∨ ∃ q : ByteArray, 0 < (i : Int) ∧ w3.cell? ⟨g, (i - 1) * 2, none⟩ = some (.string q) ∧ Op.bytesLess rs[i].pre.toList q.toList = false ∧ (rs[i].pre.toList == q.toList) = false := by
        cases i with
        | zero => left; simp
        | succ j =>
          right
          obtain ⟨g', e, _, d0, _⟩ := route_cells R3.out (show j < rs.length by omega)
          cases e
          obtain ⟨p1, p2⟩ := pre_leq Hgood.out hlt
          exact ⟨rs[j].pre, by omega, by simpa using d0, p1, p2⟩
      generalize rs[i] = r at *
      have Hc := Lib.hid (fun (W : World) (hW : Fr noBlock w3 W) => (hW.cell (p := ⟨g, i * 2, none⟩) hg (fun x => x)).trans c0)
      have y0 := Hc.out wr hf
      have Hf := Lib.hid hf
      have Hfq := Lib.hid (fun k => hf.drewN k)
      generalize bestL s (rs.take i) = best at *
      clear c0
      rcases hpv with h0 | ⟨q, h0, c1, k1, k2⟩
      · have hz : decide (0 < i) = false := by simp; omega
        go_wp2_with fail
        go_quiet (fail)
        generalize hwq : wr.drewN _ = wq at *
        have hfq : Fr noBlock w3 wq := by rw [← hwq]; exact Hfq.out _
        have z0 := Hc.out wq hfq
        clear hwq
        go_wp2_with fail
        refine (begins_any s r.pre _).mono ?_
        rintro e w5 ⟨rfl, f5⟩
        have hf5 := hfq.trans' f5
        have z5 := Hc.out w5 hf5
        have Hf5 := Lib.hid hf5
        clear hfq f5 hf5
        cases hb : begB s r.pre with
        | false =>
          rw [hb] at Htk
          have Hb := Lib.hid (Htk.out.trans (if_neg (by simp)))
          clear Htk hb
          go_wp2_with fail
          go_roundw
          case rel => exact ⟨i + 1, hi1, by go_num, by rw [Hb.out], Hf5.out⟩
          case measure => simp [intOf]; omega
        | true =>
          rw [hb] at Htk
          by_cases hsz : best.size < r.pre.size
          · have hsz' : (best.size : Int) < (r.pre.size : Int) := by omega
            have Hb := Lib.hid (Htk.out.trans (if_pos (by simp [hsz])))
            clear Htk hb
            go_wp2_with fail
            go_roundw
            case rel => exact ⟨i + 1, hi1, by go_num, by rw [Hb.out], Hf5.out⟩
            case measure => simp [intOf]; omega
          · have hsz' : (r.pre.size : Int) ≤ (best.size : Int) := by omega
            have Hb := Lib.hid (Htk.out.trans (if_neg (by simp; omega)))
            clear Htk hb
            go_wp2_with fail
            go_roundw
            case rel => exact ⟨i + 1, hi1, by go_num, by rw [Hb.out], Hf5.out⟩
            case measure => simp [intOf]; omega
      · have y1 := (hf.cell (p := ⟨g, (i - 1) * 2, none⟩) hg (fun x => x)).trans c1
        have h1 : (0 : Int) ≤ (i : Int) - 1 := by omega
        have h2 : (i : Int) - 1 < (rs.length : Int) := by omega
        have hz : 0 < i := by omega
        clear c1 hf
        go_wp2_with fail
        go_quiet (fail)
        generalize hwq : wr.drewN _ = wq at *
        have hfq : Fr noBlock w3 wq := by rw [← hwq]; exact Hfq.out _
        have z0 := Hc.out wq hfq
        clear hwq
        go_wp2_with fail
        refine (begins_any s r.pre _).mono ?_
        rintro e w5 ⟨rfl, f5⟩
        have hf5 := hfq.trans' f5
        have z5 := Hc.out w5 hf5
        have Hf5 := Lib.hid hf5
        clear hfq f5 hf5
        cases hb : begB s r.pre with
        | false =>
          rw [hb] at Htk
          have Hb := Lib.hid (Htk.out.trans (if_neg (by simp)))
          clear Htk hb
          go_wp2_with fail
          go_roundw
          case rel => exact ⟨i + 1, hi1, by go_num, by rw [Hb.out], Hf5.out⟩
          case measure => simp [intOf]; omega
        | true =>
          rw [hb] at Htk
          by_cases hsz : best.size < r.pre.size
          · have hsz' : (best.size : Int) < (r.pre.size : Int) := by omega
            have Hb := Lib.hid (Htk.out.trans (if_pos (by simp [hsz])))
            clear Htk hb
            go_wp2_with fail
            go_roundw
            case rel => exact ⟨i + 1, hi1, by go_num, by rw [Hb.out], Hf5.out⟩
            case measure => simp [intOf]; omega
          · have hsz' : (r.pre.size : Int) ≤ (best.size : Int) := by omega
            have Hb := Lib.hid (Htk.out.trans (if_neg (by simp; omega)))
            clear Htk hb
            go_wp2_with fail
            go_roundw
            case rel => exact ⟨i + 1, hi1, by go_num, by rw [Hb.out], Hf5.out⟩
            case measure => simp [intOf]; omega
    · have hlt' : (rs.length : Int) ≤ (i : Int) := by omega
      have e : i = rs.length := by omega
      subst e
      rw [List.take_length]
      obtain ⟨best, hbest⟩ : ∃ best, bestL s rs = best := ⟨_, rfl⟩
      rw [hbest]
      have Hbest := Lib.hid hbest
      have Hf := Lib.hid hf
      clear hbest hf hi hlt
      go_wp2_with fail
      clear hlt'
      go_loopw [13] (fun s13 wr => ∃ i : Nat, i ≤ rs.length ∧ s13 = .int .i64 i ∧ Fr noBlock w3 wr ∧ Hid (∀ r ∈ rs.take i, r.pre ≠ best)) (fun s13 _ => rs.length - (intOf s13).toNat)
      case atStart => exact ⟨0, Nat.zero_le _, rfl, Hf.out, Lib.hid (by simp)⟩
      case round =>
        obtain ⟨i, hi, rfl, hf2, hno⟩ := hrel
        by_cases hlt : i < rs.length
        · have hlt' : (i : Int) < (rs.length : Int) := by omega
          obtain ⟨g, rfl, hg, c0, c1⟩ := route_cells (R3.out.fr0 hf2) hlt
          have hi1 : i + 1 ≤ rs.length := by omega
          have hne := pre_ne Hgood.out hlt
          have Hf2 := Lib.hid hf2
          by_cases he : rs[i].pre = best
          · have h0 : best ≠ .empty := by
              intro e
              rw [he, e] at hne
              have h2 : (ByteArray.empty.toList).isEmpty = true := by kernel_rfl
              rw [h2] at hne; cases hne
            have hs1 := best_some Hgood.out (List.getElem_mem hlt) (he.trans Hbest.out.symm) (by rw [Hbest.out]; exact h0)
            have hfn := Hfn.out
            have hfb := Hfb.out
            rw [← Hfr.out, hs1] at hfn hfb
            simp only [Option.getD_some, Option.isSome_some] at hfn hfb
            subst hfn hfb
            have hq : (rs[i].pre.toList == best.toList) = true := by rw [he]; simp
            rw [he] at hne
            generalize rs[i] = r at *
            clear hs1 h0 hf2 hno he Hfn Hfb Hfr
            go_wp2_with fail
            go_ret
            exact ⟨rfl, B3.out.trans (Hf2.out.below B3.out.size (fun _ h => h.elim))⟩
          · have hq := str_ne he
            have Hno := Lib.hid (show ∀ r ∈ rs.take (i + 1), r.pre ≠ best from fun r hr => by
              rw [List.take_succ_eq_append_getElem hlt, List.mem_append] at hr
              rcases hr with hr | hr
              · exact hno.out r hr
              · have : r = rs[i] := by simpa using hr
                rw [this]; exact he)
            generalize rs[i] = r at *
            clear hf2 hno he
            go_wp2_with fail
            go_roundw
            case rel => exact ⟨i + 1, hi1, by go_num, Hf2.out, Hno⟩
            case measure => simp [intOf]; omega
        · have hlt' : (rs.length : Int) ≤ (i : Int) := by omega
          have hb0 : bestL s rs = .empty := by
            rcases (bestL_ok s rs).1 with h | ⟨r, hr, hp, _⟩
            · exact h
            · exact absurd (hp.trans Hbest.out) (hno.out r (by rw [List.take_of_length_le (by omega)]; exact hr))
          have hs1 := best_none hb0
          have hfn := Hfn.out
          have hfb := Hfb.out
          rw [← Hfr.out, hs1] at hfn hfb
          simp only [Option.getD_none, Option.isSome_none] at hfn hfb
          subst hfn hfb
          have Hf2 := Lib.hid hf2
          clear hs1 hb0 hf2 hno Hfn Hfb Hfr
          go_wp2_with fail
          go_ret
          exact ⟨rfl, B3.out.trans (Hf2.out.below B3.out.size (fun _ h => h.elim))⟩
end Go.Proofs.Ytpdkilfncflngaa
