/-
  RouteOrders: the plain law, the walk.
-/
import Derived.Test.YtpdkilfncflngaaRtSame
namespace Go.Proofs.Ytpdkilfncflngaa
open Go.RowKit

theorem put_small {rs : List Route} (hg : GoodR rs) (hl : rs.length < 24) (p : ByteArray) (n : Int) :
    putE rs p n = (if mayR p n = true then 0 else 1) ∧ (putR rs p n).length ≤ rs.length + 1 ∧ ∀ u, lookR (putR rs p n) u = if mayR p n = true ∧ u = p then some n else lookR rs u := by
  have he : putE rs p n = (if mayR p n = true then 0 else 1) := by
    unfold putE
    cases h : mayR p n
    · simp
    · simp; intro _; omega
  refine ⟨he, ?_, ?_⟩
  · unfold putR
    split
    · rw [putL_len hg.sorted]; split <;> omega
    · omega
  · intro u
    unfold putR
    rw [he]
    cases h : mayR p n
    · simp
    · simp only [if_true, true_and]
      rw [putL_look hg.sorted]
theorem orders_ok {rs : List Route} (hg : GoodR rs) (hl : rs.length ≤ 22) {p q : ByteArray} (hpq : p ≠ q) (n m : Int) :
    putE (putR rs q m) p n = putE rs p n ∧ putE (putR rs p n) q m = putE rs q m ∧ putR (putR rs q m) p n = putR (putR rs p n) q m := by
  obtain ⟨p1, p2, p3⟩ := put_small hg (by omega) p n
  obtain ⟨q1, q2, q3⟩ := put_small hg (by omega) q m
  obtain ⟨a1, a2, a3⟩ := put_small (hg.put q m) (by omega) p n
  obtain ⟨b1, b2, b3⟩ := put_small (hg.put p n) (by omega) q m
  refine ⟨by rw [a1, p1], by rw [b1, q1], sorted_ext ((hg.put q m).put p n).sorted ((hg.put p n).put q m).sorted fun u => ?_⟩
  rw [a3, b3, p3, q3]
  by_cases h1 : u = p
  · subst h1
    simp [hpq]
  · simp [h1]

set_option maxRecDepth 100000 in
set_option maxHeartbeats 1600000 in
theorem orders_walk (ao : Option Addr) (cap : Nat) (xs : List LAct) (p : ByteArray) (n : Int) (q : ByteArray) (m : Int) (w : World) (hx : RowRd ActR w ao xs) (hxs : ∀ y ∈ xs, y.s.size ≤ maxLen) (hp : p.size ≤ maxLen) (hq : q.size ≤ maxLen) :
    Calls Try.prog 7 #[.slice ao xs.length cap, .string p, .int .i64 n, .string q, .int .i64 m] w fun e w' => e = .returned (.bool true) ∧ Below w.heap.size w w' := by
  have Hxs := Lib.hid hxs
  have Hx := Lib.hid hx
  clear hx hxs
  go_enter Try.func7, Try.ntmps7
  go_wp2_with fail
  refine (small_any _).mono ?_
  rintro e w0 ⟨rfl, f0⟩
  go_wp2_with fail
  refine (made_any ao cap xs w0 (Hx.out.fr0 f0) Hxs.out).mono ?_
  rintro e w1 ⟨l, F1, rfl, h1, f1, n1⟩
  have M1 := Lib.hid (Mine.new (f0.below (Nat.le_refl _) (fun _ h => h.elim)) f1 h1 n1)
  have Hf1 := Lib.hid (f0.trans' f1)
  clear f0 f1 n1 h1
  go_wp2_with fail
  refine (made_any ao cap xs w1 (Hx.out.fr0 Hf1.out) Hxs.out).mono ?_
  rintro e w2 ⟨l2, F2, rfl, h2, f2, n2⟩
  have M2 := Lib.hid (M1.out.join TableAt.ok f2 h2 n2)
  obtain ⟨rs, hrs⟩ : ∃ rs, madeL xs = rs := ⟨_, rfl⟩
  rw [hrs] at M2 M1
  have hgood : GoodR rs := M1.out.it.choose_spec.2.2.2.2
  have hlen := hgood.len
  clear f2 h2 n2 hrs Hf1 M1
  by_cases hpq : p = q
  · subst hpq
    go_wp2_with fail
    go_ret
    exact ⟨rfl, M2.out.below⟩
  · have hpq' := str_ne hpq
    go_wp2_with fail
    obtain ⟨G, hG⟩ := M2.out.fst
    refine (list_any hG.it).mono ?_
    rintro e w3 ⟨v, rfl, r3, f3, _⟩
    obtain ⟨sa, sc, rfl, _, _, _, _⟩ := r3.shape
    have M3 := Lib.hid (M2.out.fr (Two.ok TableAt.ok TableAt.ok) f3)
    clear f3 r3 hG
    by_cases h22 : 22 < rs.length
    · have h22' : (22 : Int) < (rs.length : Int) := by omega
      go_wp2_with fail
      go_ret
      exact ⟨rfl, M3.out.below⟩
    · have h22' : (rs.length : Int) ≤ 22 := by omega
      obtain ⟨o1, o2, o3⟩ := orders_ok hgood (by omega) hpq n m
      obtain ⟨x, hx⟩ : ∃ x, putE rs p n = x := ⟨_, rfl⟩
      obtain ⟨y, hy⟩ : ∃ y, putE rs q m = y := ⟨_, rfl⟩
      rw [hx] at o1
      rw [hy] at o2
      have HX := Lib.hid hx
      have HY := Lib.hid hy
      have O1 := Lib.hid o1
      have O2 := Lib.hid o2
      have O3 := Lib.hid o3
      clear o1 o2 o3 hx hy
      go_wp2_with fail
      obtain ⟨G3, hA3, hs3⟩ := M3.out.left TableAt.ok
      refine (put_any hA3 p n hp HX.out rfl).mono ?_
      rintro e w4 ⟨G4, rfl, hA4, s4⟩
      obtain ⟨F4, hM4⟩ := hs3 _ _ _ hA4 s4
      have M4 := Lib.hid hM4
      clear hA3 hs3 hA4 s4 hM4
      go_wp2_with fail
      obtain ⟨G5, hA5, hs5⟩ := M4.out.left TableAt.ok
      refine (put_any hA5 q m hq O2.out rfl).mono ?_
      rintro e w5 ⟨G5', rfl, hA6, s5⟩
      obtain ⟨F5, hM5⟩ := hs5 _ _ _ hA6 s5
      have M5 := Lib.hid hM5
      clear hA5 hs5 hA6 s5 hM5
      go_wp2_with fail
      obtain ⟨G7, hA7, hs7⟩ := M5.out.right TableAt.ok
      refine (put_any hA7 q m hq HY.out rfl).mono ?_
      rintro e w6 ⟨G7', rfl, hA8, s7⟩
      obtain ⟨F6, hM6⟩ := hs7 _ _ _ hA8 s7
      have M6 := Lib.hid hM6
      clear hA7 hs7 hA8 s7 hM6
      go_wp2_with fail
      obtain ⟨G9, hA9, hs9⟩ := M6.out.right TableAt.ok
      refine (put_any hA9 p n hp O1.out O3.out).mono ?_
      rintro e w7 ⟨G9', rfl, hA10, s9⟩
      obtain ⟨F7, hM7⟩ := hs9 _ _ _ hA10 s9
      have M7 := Lib.hid hM7
      clear hA9 hs9 hA10 s9 hM7
      go_wp2_with fail
      obtain ⟨G10, hG10⟩ := M7.out.fst
      refine (list_any hG10.it).mono ?_
      rintro e w8 ⟨v8, rfl, r8, f8, _⟩
      have M8 := Lib.hid (M7.out.fr (Two.ok TableAt.ok TableAt.ok) f8)
      have R8 := Lib.hid r8
      clear f8 r8 hG10
      go_wp2_with fail
      obtain ⟨G11, hG11⟩ := M8.out.snd
      refine (list_any hG11.it).mono ?_
      rintro e w9 ⟨v9, rfl, r9, f9, _⟩
      have M9 := Lib.hid (M8.out.fr (Two.ok TableAt.ok TableAt.ok) f9)
      have R9 := Lib.hid r9
      have R89 := Lib.hid (R8.out.fr0 f9)
      clear f9 r9 hG11
      go_wp2_with fail
      refine (same_eq _ _ _ _ R89.out R9.out).mono ?_
      rintro e w10 ⟨rfl, f10⟩
      have M10 := Lib.hid (M9.out.fr (Two.ok TableAt.ok TableAt.ok) f10)
      clear f10
      go_wp2_with fail
      go_ret
      exact ⟨rfl, M10.out.below⟩
end Go.Proofs.Ytpdkilfncflngaa
