/-
  RoutePlays: the walk. After each act both tables hold the same routes.
-/
import Derived.Test.YtpdkilfncflngaaRtRPut
import Derived.Test.YtpdkilfncflngaaRtRDrop
import Derived.Test.YtpdkilfncflngaaRtRFind
import Derived.Test.YtpdkilfncflngaaRtSm
import Derived.Test.YtpdkilfncflngaaOpenR
import Derived.Test.YtpdkilfncflngaaRtLaw
import Derived.Deep.RegionHeld3
namespace Go.Proofs.Ytpdkilfncflngaa
open Go.RowKit

theorem box_cells {w0 w : World} {A : Thing} {b : Nat} {c0 c1 c2 : Value} {T : TypeId} {H : Nat → Prop} (h : Mine w0 (Two A (BoxT b (.cells #[c0, c1, c2] T (0, 0)))) w H) : w.cell? ⟨b, 0, none⟩ = some c0 ∧ w.cell? ⟨b, 1, none⟩ = some c1 ∧ w.cell? ⟨b, 2, none⟩ = some c2 := by
  have hb := h.box
  exact ⟨by simpa using cell_of hb 0, by simpa using cell_of hb 1, by simpa using cell_of hb 2⟩
theorem both_ok (l l2 : Nat) (rs : List Route) : (Two (TableAt l rs) (RTableAt l2 rs)).Ok := Two.ok TableAt.ok RTableAt.ok
theorem all_ok (l l2 : Nat) (rs qs : List Route) (b : Nat) (o : Obj) : (Two (Two (TableAt l rs) (RTableAt l2 qs)) (BoxT b o)).Ok := Two.ok (Two.ok TableAt.ok RTableAt.ok) BoxT.ok

set_option maxRecDepth 100000 in
set_option maxHeartbeats 1600000 in
theorem plays_walk (ao : Option Addr) (cap : Nat) (xs : List LAct) (w : World) (hx : RowRd ActR w ao xs) (hxs : ∀ y ∈ xs, y.s.size ≤ maxLen) :
    Calls Try.prog 4 #[.slice ao xs.length cap] w fun e w' => e = .returned (.bool true) ∧ Below w.heap.size w w' := by
  have hl := hx.len
  unfold maxLen at hl
  have Hxs := Lib.hid hxs
  clear hxs
  go_enter Try.func4, Try.ntmps4
  go_wp2_with fail
  refine (small_any _).mono ?_
  rintro e w0 ⟨rfl, f0⟩
  go_wp2_with fail
  refine (new_any _).mono ?_
  rintro e w1 ⟨l, F1, rfl, h1, f1, n1⟩
  have M1 := Lib.hid (Mine.new (f0.below (Nat.le_refl _) (fun _ h => h.elim)) f1 h1 n1)
  clear f0 f1 n1 h1
  go_wp2_with fail
  refine (rnew_any _).mono ?_
  rintro e w2 ⟨l2, F2, rfl, h2, f2, n2⟩
  have M2 := Lib.hid (M1.out.join TableAt.ok f2 h2 n2)
  clear f2 h2 n2 M1
  go_wp2_with fail
  go_loopw [6] (fun s6 wr => ∃ (i : Nat) (rs : List Route) (F : Nat → Prop), i ≤ xs.length ∧ s6 = .int .i64 i ∧ Mine w (Two (TableAt l rs) (RTableAt l2 rs)) wr F) (fun s6 _ => xs.length - (intOf s6).toNat)
  case atStart => exact ⟨0, [], _, Nat.zero_le _, rfl, M2.out⟩
  case round =>
    obtain ⟨i, rs, F, hi, rfl, hm⟩ := hrel
    have M := Lib.hid hm
    clear hm M2
    by_cases hlt : i < xs.length ∧ i < 200
    · obtain ⟨hlt, h2⟩ := hlt
      have k1 : (i : Int) < (xs.length : Int) := by omega
      have k2 : (i : Int) < 200 := by omega
      obtain ⟨b, off, rfl, hb, c0, c1, c2⟩ := act_cells hx hlt
      have Hsz := Lib.hid (Hxs.out _ (List.getElem_mem hlt))
      generalize xs[i] = a at *
      have y0 := (M.out.below.cell (p := ⟨b, off + i * 3, none⟩) hb).trans c0
      have y1 := (M.out.below.cell (p := ⟨b, off + i * 3 + 1, none⟩) hb).trans c1
      have y2 := (M.out.below.cell (p := ⟨b, off + i * 3 + 2, none⟩) hb).trans c2
      have hi' : i + 1 ≤ xs.length := by omega
      obtain ⟨op, n, s⟩ := a
      simp only at y0 y1 y2 Hsz
      obtain ⟨H0, hT0⟩ := M.out.withBox (both_ok l l2 rs) (.cells #[.int .i64 op, .int .i64 n, .string s] 34 (0, 0))
      obtain ⟨z0, z1, z2⟩ := box_cells hT0
      have HT := Lib.hid hT0
      have hxx : ∀ x : Int, (x != x) = false := fun x => by simp
      have hbb : ∀ x : Bool, (x != x) = false := fun x => by simp
      have Hbb := Lib.hid hbb
      clear c0 c1 c2 hT0 hbb hlt hb
      obtain ⟨wo, hwo⟩ : ∃ wo : World, wo = wr := ⟨_, rfl⟩
      subst hwo
      obtain ⟨bx, hbx⟩ : ∃ bx, wo.heap.size = bx := ⟨_, rfl⟩
      by_cases ho : op = 0
      · subst ho
        obtain ⟨x, hx0⟩ : ∃ x, putE rs s n = x := ⟨_, rfl⟩
        obtain ⟨qs, hq0⟩ : ∃ qs, putR rs s n = qs := ⟨_, rfl⟩
        have Hx := Lib.hid hx0
        have Hq := Lib.hid hq0
        have hx1 := hxx x
        have HS0 := Lib.hid (And.intro z1 z2)
        clear hx0 hq0 hxx hbx z0 z1 z2
        have z2 := HS0.out.2
        have z1 := HS0.out.1
        go_wp2_with fail
        clear z1 z2 y0 y1 y2
        go_region_held3 (fun W => W.cell? ⟨wo.heap.size, 1, none⟩ = some (.int .i64 n) ∧ W.cell? ⟨wo.heap.size, 2, none⟩ = some (.string s))
          (first | exact HS0.out | exact hS2 | exact hS1)
          (first
            | (go_at_call 10; obtain ⟨G1, hA1, st1⟩ := (HT.out.fr (all_ok l l2 rs rs _ _) ((Fr.refl _ _).drew)).in1 RTableAt.ok BoxT.ok; (with_reducible refine (put_any hA1 s n Hsz.out Hx.out Hq.out).mono ?_); rintro e w11 ⟨F11, rfl, h11, s11⟩; obtain ⟨H11, hT6⟩ := st1 _ _ _ h11 s11; have hS1 := (box_cells hT6).2)
            | (go_at_call 13; obtain ⟨G2, hB1, st2⟩ := hT6.in2 TableAt.ok BoxT.ok; (with_reducible refine (rput_any hB1 s n Hsz.out Hx.out Hq.out).mono ?_); rintro e w12 ⟨F12, rfl, h12, s12⟩; obtain ⟨H12, hT7⟩ := st2 _ _ _ h12 s12; have hS2 := (box_cells hT7).2))
        clear hT6 hA1 hB1 st1 st2 h11 s11 h12 s12 hS1 hS2
        have HT7 := Lib.hid hT7
        clear hT7
        go_wp2_with fail
        obtain ⟨G3, hA3, _⟩ := HT7.out.in1 RTableAt.ok BoxT.ok
        obtain ⟨G4, hB3, _⟩ := HT7.out.in2 TableAt.ok BoxT.ok
        refine (sameT_any hA3 hB3).mono ?_
        rintro e w13 ⟨rfl, f13⟩
        obtain ⟨H13, hT8⟩ := (HT7.out.fr (all_ok l l2 qs qs _ _) f13).fst
        have HT8 := Lib.hid hT8
        clear f13 hT8 hA3 hB3
        go_wp2_with fail
        go_roundw
        case rel => exact ⟨i + 1, qs, H13, hi', by go_num, HT8.out⟩
        case measure => simp [intOf]; omega
      · by_cases ho1 : op = 1
        · subst ho1
          obtain ⟨x, hx0⟩ : ∃ x, dropE rs s = x := ⟨_, rfl⟩
          obtain ⟨qs, hq0⟩ : ∃ qs, dropR rs s = qs := ⟨_, rfl⟩
          have Hx := Lib.hid hx0
          have Hq := Lib.hid hq0
          have hx1 := hxx x
          have HS0 := Lib.hid (And.intro z1 z2)
          clear hx0 hq0 hxx hbx z0 z1 z2
          have z2 := HS0.out.2
          have z1 := HS0.out.1
          go_wp2_with fail
          clear z1 z2 y0 y1 y2
          go_region_held3 (fun W => W.cell? ⟨wo.heap.size, 1, none⟩ = some (.int .i64 n) ∧ W.cell? ⟨wo.heap.size, 2, none⟩ = some (.string s))
            (first | exact HS0.out | exact hS2 | exact hS1)
            (first
              | (go_at_call 14; obtain ⟨G1, hA1, st1⟩ := (HT.out.fr (all_ok l l2 rs rs _ _) ((Fr.refl _ _).drew)).in1 RTableAt.ok BoxT.ok; (with_reducible refine (drop_any hA1 s Hsz.out Hx.out Hq.out).mono ?_); rintro e w11 ⟨F11, rfl, h11, s11⟩; obtain ⟨H11, hT6⟩ := st1 _ _ _ h11 s11; have hS1 := (box_cells hT6).2)
              | (go_at_call 15; obtain ⟨G2, hB1, st2⟩ := hT6.in2 TableAt.ok BoxT.ok; (with_reducible refine (rdrop_any hB1 s Hx.out Hq.out).mono ?_); rintro e w12 ⟨F12, rfl, h12, s12⟩; obtain ⟨H12, hT7⟩ := st2 _ _ _ h12 s12; have hS2 := (box_cells hT7).2))
          clear hT6 hA1 hB1 st1 st2 h11 s11 h12 s12 hS1 hS2
          have HT7 := Lib.hid hT7
          clear hT7
          go_wp2_with fail
          obtain ⟨G3, hA3, _⟩ := HT7.out.in1 RTableAt.ok BoxT.ok
          obtain ⟨G4, hB3, _⟩ := HT7.out.in2 TableAt.ok BoxT.ok
          refine (sameT_any hA3 hB3).mono ?_
          rintro e w13 ⟨rfl, f13⟩
          obtain ⟨H13, hT8⟩ := (HT7.out.fr (all_ok l l2 qs qs _ _) f13).fst
          have HT8 := Lib.hid hT8
          clear f13 hT8 hA3 hB3
          go_wp2_with fail
          go_roundw
          case rel => exact ⟨i + 1, qs, H13, hi', by go_num, HT8.out⟩
          case measure => simp [intOf]; omega
        · by_cases ho2 : op = 2
          · subst ho2
            obtain ⟨fn, hfn⟩ : ∃ fn, (findR rs s).getD 0 = fn := ⟨_, rfl⟩
            obtain ⟨fb, hfb⟩ : ∃ fb, (findR rs s).isSome = fb := ⟨_, rfl⟩
            have Hfn := Lib.hid hfn
            have Hfb := Lib.hid hfb
            have hx1 := hxx fn
            have hb1 := Hbb.out fb
            clear hfn hfb hxx hbx
            go_wp2_with fail
            obtain ⟨G1, hA1, _⟩ := HT.out.in1 RTableAt.ok BoxT.ok
            refine (find_any hA1 s Hsz.out).mono ?_
            rintro e w11 ⟨rfl, f11⟩
            rw [Hfn.out, Hfb.out]
            have HT6 := Lib.hid (HT.out.fr (all_ok l l2 rs rs _ _) f11)
            obtain ⟨x0, x1, x2⟩ := box_cells HT6.out
            clear f11 hA1 z0 z1 z2 x0 x1
            go_wp2_with fail
            obtain ⟨G2, hA2, _⟩ := HT6.out.in2 TableAt.ok BoxT.ok
            refine (rfind_any hA2 s Hsz.out).mono ?_
            rintro e w12 ⟨rfl, f12⟩
            rw [Hfn.out, Hfb.out]
            have hT7 := HT6.out.fr (all_ok l l2 rs rs _ _) f12
            clear f12 hA2 x2

            have HT7 := Lib.hid hT7
            clear hT7
            go_wp2_with fail
            obtain ⟨G3, hA3, _⟩ := HT7.out.in1 RTableAt.ok BoxT.ok
            obtain ⟨G4, hB3, _⟩ := HT7.out.in2 TableAt.ok BoxT.ok
            refine (sameT_any hA3 hB3).mono ?_
            rintro e w13 ⟨rfl, f13⟩
            obtain ⟨H13, hT8⟩ := (HT7.out.fr (all_ok l l2 rs rs _ _) f13).fst
            have HT8 := Lib.hid hT8
            clear f13 hT8 hA3 hB3
            go_wp2_with fail
            go_roundw
            case rel => exact ⟨i + 1, rs, H13, hi', by go_num, HT8.out⟩
            case measure => simp [intOf]; omega
          · clear hxx hbx
            have hT7 := HT.out

            have HT7 := Lib.hid hT7
            clear hT7
            go_wp2_with fail
            obtain ⟨G3, hA3, _⟩ := HT7.out.in1 RTableAt.ok BoxT.ok
            obtain ⟨G4, hB3, _⟩ := HT7.out.in2 TableAt.ok BoxT.ok
            refine (sameT_any hA3 hB3).mono ?_
            rintro e w13 ⟨rfl, f13⟩
            obtain ⟨H13, hT8⟩ := (HT7.out.fr (all_ok l l2 rs rs _ _) f13).fst
            have HT8 := Lib.hid hT8
            clear f13 hT8 hA3 hB3
            go_wp2_with fail
            go_roundw
            case rel => exact ⟨i + 1, rs, H13, hi', by go_num, HT8.out⟩
            case measure => simp [intOf]; omega
    · have hex : (xs.length : Int) ≤ (i : Int) ∨ ((i : Int) < (xs.length : Int) ∧ 200 ≤ (i : Int)) := by omega
      obtain ⟨G3, hA3, _⟩ := M.out.left RTableAt.ok
      obtain ⟨G4, hB3, _⟩ := M.out.right TableAt.ok
      have Hs := Lib.hid (sameT_any hA3 hB3)
      clear hlt hA3 hB3
      rcases hex with hex | ⟨hex, hex2⟩
      all_goals
        go_wp2_with fail
        refine Hs.out.mono ?_
        rintro e w13 ⟨rfl, f13⟩
        have HB := Lib.hid (M.out.below.trans (f13.below M.out.size (fun _ h => h.elim)))
        clear f13
        go_wp2_with fail
        go_ret
        exact ⟨rfl, HB.out⟩
end Go.Proofs.Ytpdkilfncflngaa
