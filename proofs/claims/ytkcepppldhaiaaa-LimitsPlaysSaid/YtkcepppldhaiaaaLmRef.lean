/-
  THE DOCUMENT's BOOK (moneyerref16): money, Right, may, at, New, Undo.
-/
import Derived.Test.YtkcepppldhaiaaaLmUndo
namespace Go.Proofs.Ytkcepppldhaiaaa
open Go.RowKit

theorem money_eq (n : Int) : withinB 999999999999 [n] = (decide (0 ≤ n) && decide (n ≤ 999999999999)) := by
  rw [Bool.eq_iff_iff]
  simp [withinB]
set_option maxHeartbeats 400000 in
theorem money_any (n : Int) (b : Bool) (hb : withinB 999999999999 [n] = b) (w : World) : Calls Try.prog 30 #[.int .i64 n] w fun e w' => e = .returned (.bool b) ∧ w = w' := by
  rw [money_eq] at hb
  subst hb
  by_cases h : 0 ≤ n
  · by_cases h2 : n ≤ 999999999999
    · go_enter Try.func30, Try.ntmps30
      go_wp2
      go_ret
      exact ⟨ret_bool (by first | rfl | (simp; done) | (simp; omega)), rfl⟩
    · go_enter Try.func30, Try.ntmps30
      go_wp2
      go_ret
      exact ⟨ret_bool (by first | rfl | (simp; done) | (simp; omega)), rfl⟩
  · go_enter Try.func30, Try.ntmps30
    go_wp2
    go_ret
    exact ⟨ret_bool (by first | rfl | (simp; done) | (simp; omega)), rfl⟩

theorem right_eq (r : Rule) : r.right = (withinB 999999999999 [r.times] && withinB 999999999999 [r.sum] && withinB 999999999999 [r.once] && decide (1 ≤ r.ticks) && decide (r.ticks ≤ 1099511627776)) := by
  rw [Bool.eq_iff_iff]
  simp only [Rule.right, withinB, List.all_cons, List.all_nil, Bool.and_true, Bool.and_eq_true, decide_eq_true_eq]
  omega
set_option maxHeartbeats 800000 in
theorem rright_any (r : Rule) (b : Bool) (hb : r.right = b) (w : World) : Calls Try.prog 20 #[r.val] w fun e w' => e = .returned (.bool b) ∧ Fr noBlock w w' := by
  rw [right_eq] at hb
  subst hb
  obtain ⟨ticks, times, sum, once⟩ := r
  unfold Rule.val
  simp only
  have hf0 := (Fr.refl noBlock w).alloc (.cells #[.int .i64 ticks, .int .i64 times, .int .i64 sum, .int .i64 once] 23)
  generalize h1 : withinB 999999999999 [times] = b1
  generalize h2 : withinB 999999999999 [sum] = b2
  generalize h3 : withinB 999999999999 [once] = b3
  have H1 := Lib.hid (fun W => money_any times b1 h1 W)
  have H2 := Lib.hid (fun W => money_any sum b2 h2 W)
  have H3 := Lib.hid (fun W => money_any once b3 h3 W)
  clear h1 h2 h3
  cases b1
  · go_enter Try.func20, Try.ntmps20
    go_wp2_with fail
    refine (H1.out _).mono ?_
    rintro e w' ⟨rfl, rfl⟩
    go_wp2_with fail
    go_ret
    exact ⟨rfl, hf0⟩
  · cases b2
    · go_enter Try.func20, Try.ntmps20
      go_wp2_with fail
      refine (H1.out _).mono ?_
      rintro e w' ⟨rfl, rfl⟩
      go_wp2_with fail
      refine (H2.out _).mono ?_
      rintro e w' ⟨rfl, rfl⟩
      go_wp2_with fail
      go_ret
      exact ⟨rfl, hf0⟩
    · cases b3
      · go_enter Try.func20, Try.ntmps20
        go_wp2_with fail
        refine (H1.out _).mono ?_
        rintro e w' ⟨rfl, rfl⟩
        go_wp2_with fail
        refine (H2.out _).mono ?_
        rintro e w' ⟨rfl, rfl⟩
        go_wp2_with fail
        refine (H3.out _).mono ?_
        rintro e w' ⟨rfl, rfl⟩
        go_wp2_with fail
        go_ret
        exact ⟨rfl, hf0⟩
      · have hx : (ticks < 1) ∨ (1 ≤ ticks ∧ ticks ≤ 1099511627776) ∨ (1 ≤ ticks ∧ 1099511627776 < ticks) := by omega
        rcases hx with q1 | ⟨q1, q2⟩ | ⟨q1, q2⟩
        all_goals
          go_enter Try.func20, Try.ntmps20
          go_wp2_with fail
          refine (H1.out _).mono ?_
          rintro e w' ⟨rfl, rfl⟩
          go_wp2_with fail
          refine (H2.out _).mono ?_
          rintro e w' ⟨rfl, rfl⟩
          go_wp2_with fail
          refine (H3.out _).mono ?_
          rintro e w' ⟨rfl, rfl⟩
          go_wp2_with fail
          go_ret
          exact ⟨ret_bool (by first | (simp; done) | (simp; omega)), hf0⟩

theorem rmay_eq (r : Rule) (s : ByteArray) (a n : Int) : mayB r s a n = (r.right && withinB 999999999999 [a] && !s.toList.isEmpty && decide (s.size ≤ 32) && decide (0 ≤ n) && decide (n ≤ 1099511627776)) := by
  rw [Bool.eq_iff_iff]
  simp only [mayB, cardB, withinB, List.all_cons, List.all_nil, Bool.and_true, Bool.and_eq_true, decide_eq_true_eq]
  constructor
  · rintro ⟨⟨⟨h1, h2, h3⟩, h4⟩, h5, h6⟩; exact ⟨⟨⟨⟨⟨h1, h4⟩, h2⟩, h3⟩, h5⟩, h6⟩
  · rintro ⟨⟨⟨⟨⟨h1, h4⟩, h2⟩, h3⟩, h5⟩, h6⟩; exact ⟨⟨⟨h1, h2, h3⟩, h4⟩, h5, h6⟩
set_option maxHeartbeats 800000 in
theorem rmay_any (r : Rule) (s : ByteArray) (amount now : Int) (b : Bool) (hb : mayB r s amount now = b) (w : World) :
    Calls Try.prog 29 #[r.val, .string s, .int .i64 amount, .int .i64 now] w fun e w' => e = .returned (.bool b) ∧ Fr noBlock w w' := by
  rw [rmay_eq] at hb
  subst hb
  have hf0 := (Fr.refl noBlock w).alloc (.cells #[.int .i64 r.ticks, .int .i64 r.times, .int .i64 r.sum, .int .i64 r.once] 23)
  generalize h1 : r.right = b1
  generalize h2 : withinB 999999999999 [amount] = b2
  generalize h3 : s.toList.isEmpty = b3
  have H1 := Lib.hid (fun W => rright_any r b1 h1 W)
  have H2 := Lib.hid (fun W => money_any amount b2 h2 W)
  clear h1 h2
  obtain ⟨ticks, times, sum, once⟩ := r
  unfold Rule.val at *
  simp only at *
  have hx : (b1 = false) ∨ (b1 = true ∧ b2 = false) ∨ (b1 = true ∧ b2 = true ∧ b3 = true) ∨ (b1 = true ∧ b2 = true ∧ b3 = false ∧ 32 < s.size) ∨ (b1 = true ∧ b2 = true ∧ b3 = false ∧ s.size ≤ 32 ∧ now < 0) ∨ (b1 = true ∧ b2 = true ∧ b3 = false ∧ s.size ≤ 32 ∧ 0 ≤ now ∧ 1099511627776 < now) ∨ (b1 = true ∧ b2 = true ∧ b3 = false ∧ s.size ≤ 32 ∧ 0 ≤ now ∧ now ≤ 1099511627776) := by
    cases b1 <;> cases b2 <;> cases b3 <;> simp <;> omega
  rcases hx with rfl | ⟨rfl, rfl⟩ | ⟨rfl, rfl, rfl⟩ | ⟨rfl, rfl, rfl, q1⟩ | ⟨rfl, rfl, rfl, q1, q2⟩ | ⟨rfl, rfl, rfl, q1, q2, q3⟩ | ⟨rfl, rfl, rfl, q1, q2, q3⟩
  all_goals
    go_enter Try.func29, Try.ntmps29
    go_wp2_with fail
    refine (H1.out _).mono ?_
    rintro e w1 ⟨rfl, f1⟩
    have Hf := Lib.hid (hf0.trans' f1)
    clear f1
    go_wp2_with fail
    refine (H2.out _).mono ?_
    rintro e w' ⟨rfl, rfl⟩
    go_wp2_with fail
    go_ret
    exact ⟨ret_bool (by first | rfl | (simp; done) | (simp; omega)), Hf.out⟩

set_option maxHeartbeats 400000 in
theorem rnew_any (w : World) : Calls Try.prog 17 #[] w fun e w' => ∃ l F, e = .returned (.pointer (some ⟨l, 0, none⟩)) ∧ RBookAt l [] w' F ∧ Fr noBlock w w' ∧ ∀ k, F k → w.heap.size ≤ k := by
  go_enter Try.func17, Try.ntmps17
  go_wp2
  go_ret
  exact ⟨w.heap.size, _, rfl, ⟨Hold.made w, GoodU.nil⟩, (Fr.refl _ _).alloc _, fun k hk => by subst hk; exact Nat.le_refl _⟩

theorem idx_hit {us : List Use} {s : ByteArray} {k : Nat} (hk : k < us.length) (he : us[k].card = s) (hn : ∀ u ∈ us.take k, u.card ≠ s) : idxI (findU us s) = k :=
  (idxP_find us s).symm.trans <| idxP_hit (p := fun u => decide (u.card = s)) hk (by simpa using he) (fun u hu => by simpa using hn u hu)
theorem idx_miss {us : List Use} {s : ByteArray} (hn : ∀ u ∈ us, u.card ≠ s) : idxI (findU us s) = -1 := by rw [findU_none.2 hn]; rfl

set_option maxHeartbeats 400000 in
theorem rat_any {l : Nat} {us : List Use} {w : World} {F : Nat → Prop} (h : Hold 49 40 UseR l us w F) (hlen : us.length ≤ 16) (s : ByteArray) (i : Int) (hi : idxI (findU us s) = i) :
    Calls Try.prog 28 #[.pointer (some ⟨l, 0, none⟩), .string s] w fun e w' => e = .returned (.int .i64 i) ∧ w = w' := by
  subst hi
  obtain ⟨vo, cap, c0, f0, hl, hc1, hc2, hr, _⟩ := h.opened
  clear h
  go_enter Try.func28, Try.ntmps28
  go_wp2_with fail
  go_loop [5] (fun s5 => ∃ k : Nat, k ≤ us.length ∧ s5 = .int .i64 k ∧ Hid (∀ p ∈ us.take k, p.card ≠ s)) (fun s5 => us.length - (intOf s5).toNat)
  case atStart => exact ⟨0, Nat.zero_le _, rfl, Lib.hid (by simp)⟩
  case round =>
    obtain ⟨k, hk, rfl, hn⟩ := hrel
    by_cases hlt : k < us.length
    · obtain ⟨g, rfl, hgl, _, _, p0, p1, p2, p3, _⟩ := use_own hr hlt
      have h1' : (k : Int) < (us.length : Int) := by omega
      by_cases he : us[k].card = s
      · have Hpos := Lib.hid (idx_hit hlt he hn.out)
        rw [he] at p0
        clear he p1 p2 p3
        go_wp2_with fail
        go_ret
        exact ⟨ret_int Hpos.out.symm, rfl⟩
      · have hq := str_ne he
        have Hn : Hid (∀ p ∈ us.take (k + 1), p.card ≠ s) := Lib.hid (by
          intro p hp'
          rw [List.take_succ_eq_append_getElem hlt, List.mem_append] at hp'
          rcases hp' with hp' | hp'
          · exact hn.out p hp'
          · simp at hp'; subst hp'; exact he)
        clear he hn p1 p2 p3
        generalize us[k].card = kk at *
        go_wp2_with fail
        go_round
        case rel => exact ⟨k + 1, by omega, by go_num, Hn⟩
        case measure => simp [intOf]; omega
    · have h1' : (us.length : Int) ≤ (k : Int) := by omega
      have Hno := Lib.hid (idx_miss (by have := hn.out; rwa [List.take_of_length_le (by omega)] at this))
      clear hlt
      go_wp2_with fail
      go_ret
      exact ⟨ret_int Hno.out.symm, rfl⟩
end Go.Proofs.Ytkcepppldhaiaaa
