/-
  RouteApart: the plain law, the walk.
-/
import Derived.Test.YtpdkilfncflngaaRtSame
namespace Go.Proofs.Ytpdkilfncflngaa
open Go.RowKit

def hadL (p : ByteArray) (rs : List Route) : Bool := rs.any (fun r => decide (r.pre = p))
theorem hadL_look {p : ByteArray} {rs : List Route} (h : hadL p rs = false) : lookR rs p = none := by
  rw [lookR_none]
  unfold hadL at h
  rw [List.any_eq_false] at h
  intro r hr e
  exact h r hr (by simp [e])
theorem hadL_take {p : ByteArray} {rs : List Route} {i : Nat} (h : i < rs.length) : hadL p (rs.take (i + 1)) = (hadL p (rs.take i) || decide (rs[i].pre = p)) := by
  rw [List.take_succ_eq_append_getElem h]
  unfold hadL
  rw [List.any_append]
  simp only [List.any_cons, List.any_nil, Bool.or_false]
theorem findN_congr {rs qs : List Route} {s : ByteArray} {N : Nat} (h : ∀ k, 0 < k → k ≤ N → lookR rs (headS s k) = lookR qs (headS s k)) : findN rs s N = findN qs s N := by
  induction N with
  | zero => rfl
  | succ N ih =>
    unfold findN
    rw [h (N + 1) (by omega) (Nat.le_refl _), ih (fun k h1 h2 => h k h1 (by omega))]
theorem apart_find {rs : List Route} (hg : GoodR rs) {p s : ByteArray} (n : Int) (hb : begB s p = false) : findR (putR rs p n) s = findR rs s := by
  unfold putR
  split
  · unfold findR
    refine findN_congr fun k h1 h2 => ?_
    rw [putL_look hg.sorted, if_neg]
    intro e
    have hk : k ≤ s.size := by omega
    have hsz := headS_sz hk
    rw [e] at hsz
    have : begB s p = true := begB_iff.2 ⟨by omega, by rw [hsz]; exact e⟩
    rw [hb] at this; cases this
  · rfl
theorem apart_drop {rs : List Route} (hg : GoodR rs) {p : ByteArray} {n : Int} (h0 : putE rs p n = 0) (hl : lookR rs p = none) : dropE (putR rs p n) p = 0 ∧ dropR (putR rs p n) p = rs := by
  have hq : putR rs p n = putL rs p n := by unfold putR; rw [if_pos h0]
  have hs : (lookR (putL rs p n) p).isSome = true := by rw [putL_look hg.sorted, if_pos rfl]; rfl
  rw [hq]
  refine ⟨by unfold dropE; rw [if_pos hs], ?_⟩
  unfold dropR
  rw [if_pos hs]
  refine sorted_ext (dropL_sorted (putL_sorted hg.sorted p n) p) hg.sorted fun u => ?_
  rw [dropL_look, putL_look hg.sorted]
  by_cases e : u = p
  · subst e; rw [if_pos rfl, hl]
  · rw [if_neg e, if_neg e]
theorem put_same {rs : List Route} {p : ByteArray} {n : Int} (h : ¬ putE rs p n = 0) : putR rs p n = rs := by unfold putR; rw [if_neg h]

set_option maxRecDepth 100000 in
set_option maxHeartbeats 1600000 in
theorem apart_walk (ao : Option Addr) (cap : Nat) (xs : List LAct) (p : ByteArray) (n : Int) (s : ByteArray) (w : World) (hx : RowRd ActR w ao xs) (hxs : ∀ y ∈ xs, y.s.size ≤ maxLen) (hp : p.size ≤ maxLen) (hs : s.size ≤ maxLen) :
    Calls Try.prog 6 #[.slice ao xs.length cap, .string p, .int .i64 n, .string s] w fun e w' => e = .returned (.bool true) ∧ Below w.heap.size w w' := by
  have Hxs := Lib.hid hxs
  have Hx := Lib.hid hx
  have OK3 := fun (v : Value) (ra rb rc : List Route) (l l2 : Nat) => Two.ok (Two.ok (TableAt.ok (l := l) (rs := ra)) (TableAt.ok (l := l2) (rs := rb))) (Row.ok (E := 42) (R := RouteR) (v := v) (xs := rc))
  have OK := Lib.hid OK3
  clear hx hxs OK3
  go_enter Try.func6, Try.ntmps6
  go_wp2_with fail
  refine (small_any _).mono ?_
  rintro e w0 ⟨rfl, f0⟩
  go_wp2_with fail
  refine (made_any ao cap xs w0 (Hx.out.fr0 f0) Hxs.out).mono ?_
  rintro e w1 ⟨l, F1, rfl, h1, f1, n1⟩
  have M1 := Lib.hid (Mine.new (f0.below (Nat.le_refl _) (fun _ h => h.elim)) f1 h1 n1)
  have Hf1 := Lib.hid (f0.trans' f1)
  clear f0 f1 n1 h1
  go_wp2_with fail
  refine (made_any ao cap xs w1 (Hx.out.fr0 Hf1.out) Hxs.out).mono ?_
  rintro e w2 ⟨l2, F2, rfl, h2, f2, n2⟩
  have M2 := Lib.hid (M1.out.join TableAt.ok f2 h2 n2)
  obtain ⟨rs, hrs⟩ : ∃ rs, madeL xs = rs := ⟨_, rfl⟩
  rw [hrs] at M2 M1
  have hgood : GoodR rs := M1.out.it.choose_spec.2.2.2.2
  have hlen := hgood.len
  have Hgood := Lib.hid hgood
  clear f2 h2 n2 hrs Hf1 M1 hgood
  go_wp2_with fail
  obtain ⟨G, hG⟩ := M2.out.fst
  refine (list_any hG.it).mono ?_
  rintro e w3 ⟨v, rfl, r3, f3, n3⟩
  obtain ⟨sa, sc, rfl, _, _, _, _⟩ := r3.shape
  have M3 := Lib.hid (M2.out.join (Two.ok TableAt.ok TableAt.ok) f3 (B := Row 42 RouteR (.slice sa rs.length sc) rs) ⟨r3, fun k => Iff.rfl⟩ n3)
  clear f3 r3 hG n3
  go_wp2_with fail
  obtain ⟨G4, hA4, _⟩ := M3.out.in1 TableAt.ok Row.ok
  refine (find_any hA4 s hs).mono ?_
  rintro e w4 ⟨rfl, f4⟩
  have M4 := Lib.hid (M3.out.fr (OK.out _ _ _ _ _ _) f4)
  clear hA4 f4
  obtain ⟨fn, hfn⟩ : ∃ fn, (findR rs s).getD 0 = fn := ⟨_, rfl⟩
  obtain ⟨fb, hfb⟩ : ∃ fb, (findR rs s).isSome = fb := ⟨_, rfl⟩
  rw [hfn, hfb]
  have Hfn := Lib.hid hfn
  have Hfb := Lib.hid hfb
  clear hfn hfb
  go_wp2_with fail
  go_loopw [15, 16] (fun s15 s16 wr => ∃ i : Nat, i ≤ rs.length ∧ s16 = .int .i64 i ∧ s15 = .bool (hadL p (rs.take i)) ∧ Fr noBlock w4 wr) (fun _ s16 _ => rs.length - (intOf s16).toNat)
  case atStart => exact ⟨0, Nat.zero_le _, rfl, rfl, Fr.refl _ _⟩
  case round =>
    obtain ⟨i, hi, rfl, rfl, hf⟩ := hrel
    have Hf := Lib.hid hf
    by_cases hlt : i < rs.length
    · have hlt' : (i : Int) < (rs.length : Int) := by omega
      have hi1 : i + 1 ≤ rs.length := by omega
      have Htk := Lib.hid (hadL_take (p := p) hlt)
      obtain ⟨GR, hR⟩ := M4.out.snd
      obtain ⟨g, rfl, hg, c0, _⟩ := route_cells (hR.it.1.fr0 hf) hlt
      generalize rs[i] = r at *
      clear hR hf
      cases hb : hadL p (rs.take i) with
      | true =>
        rw [hb] at Htk
        go_wp2_with fail
        go_roundw
        case rel => exact ⟨i + 1, hi1, by go_num, by rw [Htk.out]; rfl, Hf.out⟩
        case measure => simp [intOf]; omega
      | false =>
        rw [hb] at Htk
        by_cases hq : r.pre = p
        · have hq' : (r.pre.toList == p.toList) = true := by rw [hq]; simp
          have Hb := Lib.hid (Htk.out.trans (show (false || decide (r.pre = p)) = true by simp [hq]))
          clear hq Htk
          go_wp2_with fail
          go_roundw
          case rel => exact ⟨i + 1, hi1, by go_num, by rw [Hb.out], Hf.out⟩
          case measure => simp [intOf]; omega
        · have hq' := str_ne hq
          have Hb := Lib.hid (Htk.out.trans (show (false || decide (r.pre = p)) = false by simp [hq]))
          clear hq Htk
          go_wp2_with fail
          go_roundw
          case rel => exact ⟨i + 1, hi1, by go_num, by rw [Hb.out], Hf.out⟩
          case measure => simp [intOf]; omega
    · have hlt' : (rs.length : Int) ≤ (i : Int) := by omega
      have e : i = rs.length := by omega
      subst e
      rw [List.take_length]
      obtain ⟨had, hhad⟩ : ∃ had, hadL p rs = had := ⟨_, rfl⟩
      rw [hhad]
      have Hhad := Lib.hid hhad
      have M5 := Lib.hid (M4.out.fr (OK.out _ _ _ _ _ _) hf)
      obtain ⟨x, hx⟩ : ∃ x, putE rs p n = x := ⟨_, rfl⟩
      obtain ⟨qs, hqs⟩ : ∃ qs, putR rs p n = qs := ⟨_, rfl⟩
      have HX := Lib.hid hx
      have HQ := Lib.hid hqs
      clear hf hhad hx hqs Hf hi hlt
      go_wp2_with fail
      clear hlt'
      obtain ⟨G6, hA6, hs6⟩ := M5.out.in1 TableAt.ok Row.ok
      refine (put_any hA6 p n hp HX.out HQ.out).mono ?_
      rintro e w6 ⟨G6', rfl, hA6', s6⟩
      obtain ⟨F6, hM6⟩ := hs6 _ _ _ hA6' s6
      have M6 := Lib.hid hM6
      clear hA6 hs6 hA6' s6 hM6
      go_wp2_with fail
      obtain ⟨G7, hA7, _⟩ := M6.out.in1 TableAt.ok Row.ok
      refine (find_any hA7 s hs).mono ?_
      rintro e w7 ⟨rfl, f7⟩
      have M7 := Lib.hid (M6.out.fr (OK.out _ _ _ _ _ _) f7)
      clear hA7 f7
      obtain ⟨gn, hgn⟩ : ∃ gn, (findR qs s).getD 0 = gn := ⟨_, rfl⟩
      obtain ⟨gb, hgb⟩ : ∃ gb, (findR qs s).isSome = gb := ⟨_, rfl⟩
      rw [hgn, hgb]
      have Hgn := Lib.hid hgn
      have Hgb := Lib.hid hgb
      clear hgn hgb
      go_wp2_with fail
      refine (begins_any s p _).mono ?_
      rintro e w8 ⟨rfl, f8⟩
      have M8 := Lib.hid (M7.out.fr (OK.out _ _ _ _ _ _) f8)
      clear f8
      have hown : (begB s p = true) ∨ (begB s p = false ∧ gn = fn ∧ gb = fb) := by
        cases hb : begB s p with
        | true => exact .inl rfl
        | false =>
          have := apart_find Hgood.out n hb
          rw [HQ.out] at this
          exact .inr ⟨rfl, by rw [← Hgn.out, ← Hfn.out, this], by rw [← Hgb.out, ← Hfb.out, this]⟩
      clear Hgn Hgb Hfn Hfb
      by_cases hx0 : x = 0
      · subst hx0
        cases had with
        | true =>
          rcases hown with hb | ⟨hb, rfl, rfl⟩
          all_goals
            rw [hb]
            clear hb
            go_wp2_with fail
            go_ret
            exact ⟨rfl, M8.out.below⟩
        | false =>
          obtain ⟨d1, d2⟩ := apart_drop Hgood.out HX.out (hadL_look Hhad.out)
          rw [HQ.out] at d1 d2
          have D1 := Lib.hid d1
          have D2 := Lib.hid d2
          clear d1 d2
          rcases hown with hb | ⟨hb, rfl, rfl⟩
          all_goals
            rw [hb]
            clear hb
            go_wp2_with fail
            obtain ⟨G9, hA9, hs9⟩ := M8.out.in1 TableAt.ok Row.ok
            refine (drop_any hA9 p hp D1.out D2.out).mono ?_
            rintro e w9 ⟨G9', rfl, hA9', s9⟩
            obtain ⟨F9, hM9⟩ := hs9 _ _ _ hA9' s9
            have M9 := Lib.hid hM9
            clear hA9 hs9 hA9' s9 hM9
            go_wp2_with fail
            obtain ⟨G10, hA10, _⟩ := M9.out.in1 TableAt.ok Row.ok
            refine (list_any hA10).mono ?_
            rintro e w10 ⟨v10, rfl, r10, f10, _⟩
            have M10 := Lib.hid (M9.out.fr (OK.out _ _ _ _ _ _) f10)
            have R10 := Lib.hid r10
            clear hA10 f10 r10
            go_wp2_with fail
            obtain ⟨GS, hS⟩ := M10.out.snd
            refine (same_eq _ _ _ _ R10.out hS.it.1).mono ?_
            rintro e w11 ⟨rfl, f11⟩
            have M11 := Lib.hid (M10.out.fr (OK.out _ _ _ _ _ _) f11)
            clear hS f11 R10
            go_wp2_with fail
            obtain ⟨G12, hA12, _⟩ := M11.out.in2 TableAt.ok Row.ok
            refine (list_any hA12).mono ?_
            rintro e w12 ⟨v12, rfl, r12, f12, _⟩
            have M12 := Lib.hid (M11.out.fr (OK.out _ _ _ _ _ _) f12)
            have R12 := Lib.hid r12
            clear hA12 f12 r12
            go_wp2_with fail
            obtain ⟨GS, hS⟩ := M12.out.snd
            refine (same_eq _ _ _ _ R12.out hS.it.1).mono ?_
            rintro e w13 ⟨rfl, f13⟩
            have M13 := Lib.hid (M12.out.fr (OK.out _ _ _ _ _ _) f13)
            clear hS f13 R12
            go_wp2_with fail
            go_ret
            exact ⟨rfl, M13.out.below⟩
      · have hqs : qs = rs := by rw [← HQ.out]; exact put_same (by rw [HX.out]; exact hx0)
        subst hqs
        rcases hown with hb | ⟨hb, rfl, rfl⟩
        all_goals
          rw [hb]
          clear hb
          go_wp2_with fail
          obtain ⟨G10, hA10, _⟩ := M8.out.in1 TableAt.ok Row.ok
          refine (list_any hA10).mono ?_
          rintro e w10 ⟨v10, rfl, r10, f10, _⟩
          have M10 := Lib.hid (M8.out.fr (OK.out _ _ _ _ _ _) f10)
          have R10 := Lib.hid r10
          clear hA10 f10 r10
          go_wp2_with fail
          obtain ⟨GS, hS⟩ := M10.out.snd
          refine (same_eq _ _ _ _ R10.out hS.it.1).mono ?_
          rintro e w11 ⟨rfl, f11⟩
          have M11 := Lib.hid (M10.out.fr (OK.out _ _ _ _ _ _) f11)
          clear hS f11 R10
          go_wp2_with fail
          go_ret
          exact ⟨rfl, M11.out.below⟩
end Go.Proofs.Ytpdkilfncflngaa
