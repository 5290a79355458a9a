/-
  DiskPlays: the walk. After each act both disks are in the same state.
-/
import Derived.Test.YtmcckppmciflmaaRdAct
import Derived.Test.YtmcckppmciflmaaRdNew
import Derived.Test.YtmcckppmciflmaaDkSmall
namespace Go.Proofs.Ytmcckppmciflmaa
open Go.RowKit

theorem both_ok (l l2 : Nat) (d d2 : DK) : (Two (DiskAt l d) (RDiskAt l2 d2)).Ok := Two.ok DiskAt.ok RDiskAt.ok
set_option maxRecDepth 100000 in
set_option maxHeartbeats 1600000 in
theorem plays_walk (sectors size : Int) (ao : Option Addr) (cap : Nat) (xs : List DAct) (w : World) (hx : RowRd DActR w ao xs) (hxs : ∀ y ∈ xs, y.Ok w ∧ y.Num) :
    Calls Try.prog 6 #[.int .i64 sectors, .int .i64 size, .slice ao xs.length cap] w fun e w' => e = .returned (.bool true) ∧ Below w.heap.size w w' := by
  have hl := hx.len
  unfold maxLen at hl
  have Hxs := Lib.hid hxs
  have HX := Lib.hid hx
  clear hxs hx
  cases hok : newOk sectors size with
  | false =>
    have HO := Lib.hid hok
    clear hok
    go_enter Try.func6, Try.ntmps6
    go_wp2_with fail
    refine (small_any _).mono ?_
    rintro e w0 ⟨rfl, f0⟩
    go_wp2_with fail
    refine (new_no sectors size _ HO.out).mono ?_
    rintro e w1 ⟨rfl, rfl⟩
    go_wp2_with fail
    refine (rnew_no sectors size _ HO.out).mono ?_
    rintro e w2 ⟨rfl, rfl⟩
    have hB := Lib.hid (f0.below (Nat.le_refl _) (fun _ h => h.elim))
    clear f0
    go_wp2_with fail
    go_ret
    exact ⟨rfl, hB.out⟩
  | true =>
    have HO := Lib.hid hok
    clear hok
    go_enter Try.func6, Try.ntmps6
    go_wp2_with fail
    refine (small_any _).mono ?_
    rintro e w0 ⟨rfl, f0⟩
    go_wp2_with fail
    refine (new_mine (f0.below (Nat.le_refl _) (fun _ h => h.elim)) sectors size HO.out rfl).mono ?_
    rintro e w1 ⟨l, F1, rfl, hm1⟩
    have M1 := Lib.hid hm1
    clear hm1 f0
    go_wp2_with fail
    refine (rnew_ok sectors size _ HO.out).mono ?_
    rintro e w2 ⟨l2, F2, rfl, h2, f2, n2⟩
    have M2 := Lib.hid (M1.out.join DiskAt.ok f2 h2 n2)
    clear f2 h2 n2 M1
    go_wp2_with fail
    go_loopw [12] (fun s12 wr => ∃ (i : Nat) (d : DK) (H : Nat → Prop), i ≤ xs.length ∧ s12 = .int .i64 i ∧ Mine w (Two (DiskAt l d) (RDiskAt l2 d)) wr H) (fun s12 _ => xs.length - (intOf s12).toNat)
    case atStart => exact ⟨0, _, _, Nat.zero_le _, rfl, M2.out⟩
    case round =>
      obtain ⟨i, d, H, hi, rfl, hm⟩ := hrel
      have M := Lib.hid hm
      clear hm M2
      by_cases hlt : i < xs.length ∧ i < 150
      · obtain ⟨hlt, h2⟩ := hlt
        have q1 : (i : Int) < (xs.length : Int) := by omega
        have q2 : (i : Int) < 150 := by omega
        obtain ⟨ba, off, rfl, hbb, c0, c1, c2, c3, c4⟩ := dact_cells HX.out hlt
        have Ha := Lib.hid (Hxs.out _ (List.getElem_mem hlt))
        have hi' : i + 1 ≤ xs.length := by omega
        generalize xs[i] = a at *
        have y0 := (M.out.below.cell (p := ⟨ba, off + i * 5, none⟩) hbb).trans c0
        have y1 := (M.out.below.cell (p := ⟨ba, off + i * 5 + 1, none⟩) hbb).trans c1
        have y2 := (M.out.below.cell (p := ⟨ba, off + i * 5 + 2, none⟩) hbb).trans c2
        have y3 := (M.out.below.cell (p := ⟨ba, off + i * 5 + 3, none⟩) hbb).trans c3
        have y4 := (M.out.below.cell (p := ⟨ba, off + i * 5 + 4, none⟩) hbb).trans c4
        clear c0 c1 c2 c3 c4 hlt hbb
        go_wp2_with fail
        refine (act_any M.out.it a Ha.out.2 (Bes.arg Ha.out.1.b M.out) (Bes.arg Ha.out.1.keep M.out)).mono ?_
        rintro e w3 ⟨d', H', rfl, t3, s3⟩
        have M3 := Lib.hid (M.out.step (A' := Two (DiskAt l d') (RDiskAt l2 d')) t3 s3)
        clear t3 s3 y0 y1 y2 y3 y4
        go_wp2_with fail
        obtain ⟨F5, G5, hD, hR, -, -⟩ := M3.out.it
        refine (tells_any hD hR).mono ?_
        rintro e w4 ⟨rfl, f4⟩
        have M4 := Lib.hid (M3.out.fr (both_ok l l2 d' d') f4)
        clear f4 hD hR
        go_wp2_with fail
        go_roundw
        case rel => exact ⟨i + 1, d', H', hi', by go_num, M4.out⟩
        case measure => simp [intOf]; omega
      · have hcs : ((xs.length : Int) ≤ (i : Int)) ∨ ((i : Int) < (xs.length : Int) ∧ (150 : Int) ≤ (i : Int)) := by omega
        clear hlt
        rcases hcs with hc | ⟨hc, hc2⟩
        all_goals
          go_wp2_with fail
          obtain ⟨F5, G5, hD, hR, -, -⟩ := M.out.it
          refine (tells_any hD hR).mono ?_
          rintro e w4 ⟨rfl, f4⟩
          have M4 := Lib.hid (M.out.fr (both_ok l l2 d d) f4)
          clear f4 hD hR
          go_wp2_with fail
          go_ret
          exact ⟨rfl, M4.out.below⟩
end Go.Proofs.Ytmcckppmciflmaa
