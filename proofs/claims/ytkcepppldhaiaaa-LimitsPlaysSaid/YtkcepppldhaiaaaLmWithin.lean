/-
  THE WALKS of within (a variadic one, a closure), Right, card, may.
-/
import Derived.Test.YtkcepppldhaiaaaLmBase
import Derived.Deep.QuietTactic
import Derived.Shelf.Abstract
import Derived.BigQuiet
namespace Go.Proofs.Ytkcepppldhaiaaa
open Go.RowKit

def IntR : Rec Int := ⟨1, fun n => [.int .i64 n], fun _ => rfl, fun a u h => by simp at h; subst h; rfl⟩

/-- a row of ints: its cells -/
theorem int_cell {w : World} {ao : Option Addr} {xs : List Int} (h : RowRd IntR w ao xs) {i : Nat} (hi : i < xs.length) : ∃ b off, ao = some ⟨b, off, none⟩ ∧ b < w.heap.size ∧ w.cell? ⟨b, off + i, none⟩ = some (.int .i64 xs[i]) := by
  obtain ⟨b, off, h1, h2, h3⟩ := h.at' i hi
  refine ⟨b, off, h1, h2, ?_⟩
  have := h3 0 _ rfl
  simpa [IntR] using this

theorem ret_bool {a b : Bool} (h : a = b) : Ending.returned (.bool a) = .returned (.bool b) := by rw [h]
theorem ret_int {a b : Int} (h : a = b) : Ending.returned (.int .i64 a) = .returned (.int .i64 b) := by rw [h]
set_option maxHeartbeats 400000 in
theorem within1_any (n m : Int) (B : Nat) (w : World) (hc : w.cell? ⟨B, 0, none⟩ = some (.int .i64 m)) :
    Calls Try.prog 32 #[.int .i64 n, .pointer (some ⟨B, 0, none⟩)] w fun e w' => e = .returned (.bool (!decide (0 ≤ n ∧ n ≤ m))) ∧ w = w' := by
  by_cases h0 : n < 0
  · go_enter Try.func32, Try.ntmps32
    go_wp2
    go_ret
    exact ⟨ret_bool (by rw [decide_eq_false (by omega)]; rfl), rfl⟩
  · by_cases h1 : m < n
    · go_enter Try.func32, Try.ntmps32
      go_wp2
      go_ret
      exact ⟨ret_bool (by rw [decide_eq_false (by omega)]; rfl), rfl⟩
    · go_enter Try.func32, Try.ntmps32
      go_wp2
      go_ret
      have e : (decide (0 ≤ n ∧ n ≤ m)) = true := decide_eq_true (by omega)
      exact ⟨ret_bool (by first | rfl | (rw [e]; rfl)), rfl⟩

def idxP {α : Type} (p : α → Bool) (xs : List α) : Int := match xs.findIdx? p with | some k => k | none => -1
theorem idxP_hit {α : Type} {p : α → Bool} {xs : List α} {k : Nat} (hk : k < xs.length) (hp : p xs[k] = true) (hn : ∀ x ∈ xs.take k, p x = false) : idxP p xs = k := by
  have : xs.findIdx? p = some k := by
    rw [List.findIdx?_eq_some_iff_getElem]
    refine ⟨hk, hp, fun j hj => ?_⟩
    have := hn (xs[j]'(by omega)) (by rw [List.mem_take_iff_getElem]; exact ⟨j, by omega, rfl⟩)
    simp [this]
  simp [idxP, this]
theorem idxP_miss {α : Type} {p : α → Bool} {xs : List α} (hn : ∀ x ∈ xs, p x = false) : idxP p xs = -1 := by
  have : xs.findIdx? p = none := by rw [List.findIdx?_eq_none_iff]; simpa using hn
  simp [idxP, this]
theorem take_miss {α : Type} {p : α → Bool} {xs : List α} {k : Nat} (hk : k < xs.length) (hp : p xs[k] = false) (hn : ∀ x ∈ xs.take k, p x = false) : ∀ x ∈ xs.take (k + 1), p x = false := by
  intro x hx
  rw [List.take_succ_eq_append_getElem hk, List.mem_append] at hx
  rcases hx with hx | hx
  · exact hn x hx
  · simp at hx; subst hx; exact hp

set_option maxHeartbeats 400000 in
theorem indexI_any (ao : Option Addr) (cap : Nat) (xs : List Int) (g : Nat) (lb : Array Value) (eg : ∀ args w, (callFunc g args).run Try.prog w = .ok (.enter g args) w) (p : Int → Bool) (w : World) (ha : RowRd IntR w ao xs)
    (hp : ∀ (W : World) (x : Int), Fr noBlock w W → Calls Try.prog g (#[.int .i64 x] ++ lb) W fun e w' => e = .returned (.bool (p x)) ∧ Fr noBlock W w') :
    Calls Try.prog 37 #[.slice ao xs.length cap, .func (.func g) #[] lb] w fun e w' => e = .returned (.int .i64 (idxP p xs)) ∧ Fr noBlock w w' := by
  have hl := ha.len
  unfold maxLen at hl
  have Hp := Lib.hid hp
  clear hp
  go_enter Try.func37, Try.ntmps37
  go_wp2_with fail
  go_loopw [5, 8] (fun s5 s8 wr => ∃ k : Nat, k ≤ xs.length ∧ s8 = .int .i64 k ∧ Fr noBlock w wr ∧ Hid (∀ x ∈ xs.take k, p x = false)) (fun _ s8 _ => xs.length - (intOf s8).toNat)
  case atStart => exact ⟨0, Nat.zero_le _, rfl, Fr.refl _ _, Lib.hid (by simp)⟩
  case round =>
    obtain ⟨k, hk, rfl, hf, hn⟩ := hrel
    by_cases hlt : k < xs.length
    · obtain ⟨b, off, rfl, hb, hc⟩ := int_cell (ha.fr0 hf) hlt
      have h1 : (k : Int) < (xs.length : Int) := by omega
      have hcall := Hp.out wr xs[k] hf
      cases hpk : p xs[k] with
      | true =>
        rw [hpk] at hcall
        have Hc := Lib.hid hcall
        have Hr := Lib.hid (idxP_hit hlt hpk hn.out)
        clear hcall hpk
        generalize xs[k] = x at *
        go_wp2_with fail
        refine Hc.out.mono ?_
        rintro e w' ⟨rfl, hf'⟩
        go_wp2_with fail
        go_ret
        exact ⟨ret_int Hr.out.symm, hf.trans' hf'⟩
      | false =>
        rw [hpk] at hcall
        have Hc := Lib.hid hcall
        have Hn := Lib.hid (take_miss hlt hpk hn.out)
        clear hcall hpk
        generalize xs[k] = x at *
        go_wp2_with fail
        refine Hc.out.mono ?_
        rintro e w' ⟨rfl, hf'⟩
        go_wp2_with fail
        go_roundw
        case rel => exact ⟨k + 1, by omega, by go_num, hf.trans' hf', Hn⟩
        case measure => simp [intOf]; omega
    · have h1 : (xs.length : Int) ≤ (k : Int) := by omega
      have Hr : Hid (idxP p xs = -1) := Lib.hid (idxP_miss (by have := hn.out; rwa [List.take_of_length_le (by omega)] at this))
      go_wp2_with fail
      go_ret
      exact ⟨ret_int Hr.out.symm, hf⟩

theorem idxP_nonneg {α : Type} (p : α → Bool) (xs : List α) : decide (0 ≤ idxP p xs) = xs.any p := by
  unfold idxP
  cases h : xs.findIdx? p with
  | none =>
    rw [List.findIdx?_eq_none_iff] at h
    have : xs.any p = false := by rw [List.any_eq_false]; simpa using h
    rw [this]; rfl
  | some k =>
    rw [List.findIdx?_eq_some_iff_getElem] at h
    obtain ⟨hk, hp, _⟩ := h
    have : xs.any p = true := by rw [List.any_eq_true]; exact ⟨_, List.getElem_mem hk, hp⟩
    rw [this]
    simp

set_option maxHeartbeats 400000 in
theorem containsI_any (ao : Option Addr) (cap : Nat) (xs : List Int) (g : Nat) (lb : Array Value) (eg : ∀ args w, (callFunc g args).run Try.prog w = .ok (.enter g args) w) (p : Int → Bool) (w : World) (ha : RowRd IntR w ao xs)
    (hp : ∀ (W : World) (x : Int), Fr noBlock w W → Calls Try.prog g (#[.int .i64 x] ++ lb) W fun e w' => e = .returned (.bool (p x)) ∧ Fr noBlock W w') :
    Calls Try.prog 31 #[.slice ao xs.length cap, .func (.func g) #[] lb] w fun e w' => e = .returned (.bool (xs.any p)) ∧ Fr noBlock w w' := by
  have Hc := Lib.hid (indexI_any ao cap xs g lb eg p w ha hp)
  have Hn := Lib.hid (idxP_nonneg p xs)
  clear hp
  go_enter Try.func31, Try.ntmps31
  go_wp2_with fail
  refine Hc.out.mono ?_
  rintro e w' ⟨rfl, hf'⟩
  generalize idxP p xs = i at *
  go_wp2
  go_ret
  exact ⟨ret_bool Hn.out, hf'⟩

theorem any_not_within (most : Int) (xs : List Int) : (!xs.any fun n => !decide (0 ≤ n ∧ n ≤ most)) = withinB most xs := by
  induction xs with
  | nil => rfl
  | cons x xs ih => simp only [List.any_cons, withinB, List.all_cons, Bool.not_or, Bool.not_not] at ih ⊢; rw [ih]

set_option maxHeartbeats 400000 in
theorem within_any (most : Int) (ao : Option Addr) (cap : Nat) (xs : List Int) (w : World) (ha : RowRd IntR w ao xs) (b : Bool) (hb : withinB most xs = b) :
    Calls Try.prog 22 #[.int .i64 most, .slice ao xs.length cap] w fun e w' => e = .returned (.bool b) ∧ Fr noBlock w w' := by
  subst hb
  have hf0 := (Fr.refl noBlock w).alloc (.cells #[.int .i64 most] 3)
  have hc := containsI_any ao cap xs 32 #[.pointer (some ⟨w.heap.size, 0, none⟩)] (enters_of Try.func32 (by kernel_rfl) rfl) (fun n => !decide (0 ≤ n ∧ n ≤ most)) _ (ha.fr0 hf0) (fun W x hf => by
    have h0 : (w.alloc (.cells #[.int .i64 most] 3)).cell? ⟨w.heap.size, 0, none⟩ = some (.int .i64 most) := by simp
    have h1 : W.cell? ⟨w.heap.size, 0, none⟩ = some (.int .i64 most) := (hf.cell (p := ⟨w.heap.size, 0, none⟩) (by simp) (fun x => x)).trans h0
    exact (within1_any x most w.heap.size W h1).mono fun _ _ ⟨a, b⟩ => ⟨a, b ▸ Fr.refl _ _⟩)
  have Hc := Lib.hid hc
  have Hn := Lib.hid (any_not_within most xs)
  clear hc
  go_enter Try.func22, Try.ntmps22
  go_wp2_with fail
  refine Hc.out.mono ?_
  rintro e w' ⟨rfl, hf'⟩
  generalize (xs.any fun n => !decide (0 ≤ n ∧ n ≤ most)) = b at *
  go_wp2
  go_ret
  exact ⟨ret_bool Hn.out, hf0.trans' hf'⟩

/-- the arguments of a variadic call, in a block of their own -/
theorem ints_new {w : World} {b : Nat} (xs : List Int) (h : w.heap[b]? = some (.cells (IntR.flat xs).toArray 3 (0, 0))) (hl : xs.length ≤ maxLen) : RowRd IntR w (some ⟨b, 0, none⟩) xs := by
  refine ⟨hl, fun i hi => ⟨b, 0, rfl, heap_lt h, fun j u hu => ?_⟩⟩
  have hj : j < IntR.k := by have := (List.getElem?_eq_some_iff.1 hu).1; rwa [IntR.len] at this
  rw [cell_of h]
  have := (IntR.flat_get hi hj).trans hu
  simpa using this

set_option maxHeartbeats 400000 in
theorem card_any (s : ByteArray) (b : Bool) (hb : cardB s = b) (w : World) : Calls Try.prog 27 #[.string s] w fun e w' => e = .returned (.bool b) ∧ w = w' := by
  subst hb
  unfold cardB
  by_cases h : s.toList = []
  · have h2 : s.toList.isEmpty = true := by rw [h]; rfl
    go_enter Try.func27, Try.ntmps27
    go_wp2
    go_ret
    exact ⟨ret_bool (by simp [h]), rfl⟩
  · have h2 : s.toList.isEmpty = false := by simpa using h
    by_cases hl : s.size ≤ 32
    all_goals
      go_enter Try.func27, Try.ntmps27
      go_wp2
      go_ret
      exact ⟨ret_bool (by first | (simp [h]; done) | (simp [h]; omega) | (rw [h2]; simp; omega)), rfl⟩

theorem ints1 (W : World) (a : Int) (b : Nat) (hb : W.heap.size = b) : RowRd IntR (W.alloc (.cells #[.int .i64 a] 3)) (some ⟨b, 0, none⟩) [a] := by
  subst hb; exact ints_new [a] (heap_new W _) (by unfold maxLen; simp)
theorem ints2 (W : World) (a a' : Int) (b : Nat) (hb : W.heap.size = b) : RowRd IntR (W.alloc (.cells #[.int .i64 a, .int .i64 a'] 3)) (some ⟨b, 0, none⟩) [a, a'] := by
  subst hb; exact ints_new [a, a'] (heap_new W _) (by unfold maxLen; simp)
theorem ints3 (W : World) (a a' a'' : Int) (b : Nat) (hb : W.heap.size = b) : RowRd IntR (W.alloc (.cells #[.int .i64 a, .int .i64 a', .int .i64 a''] 3)) (some ⟨b, 0, none⟩) [a, a', a''] := by
  subst hb; exact ints_new [a, a', a''] (heap_new W _) (by unfold maxLen; simp)

set_option maxHeartbeats 800000 in
theorem right_any (r : Rule) (b : Bool) (hb : r.right = b) (w : World) : Calls Try.prog 10 #[r.val] w fun e w' => e = .returned (.bool b) ∧ Fr noBlock w w' := by
  subst hb
  obtain ⟨ticks, times, sum, once⟩ := r
  unfold Rule.val Rule.right
  simp only
  have hf0 := (Fr.refl noBlock w).alloc (.cells #[.int .i64 ticks, .int .i64 times, .int .i64 sum, .int .i64 once] 23)
  by_cases h1 : 0 < ticks
  · generalize hw1 : withinB 1099511627776 [ticks] = b1
    have Hw1 := Lib.hid hw1
    generalize hw2 : withinB 999999999999 [times, sum, once] = b2
    have Hw2 := Lib.hid hw2
    clear hw1 hw2
    have hq : (decide (0 < ticks) && b1 && b2) = (b1 && b2) := by rw [decide_eq_true h1]; rfl
    rw [hq]
    clear hq
    go_enter Try.func10, Try.ntmps10
    go_wp2_with fail
    refine (within_any _ _ 1 [ticks] _ (ints1 _ ticks _ (by simp)) b1 Hw1.out).mono ?_
    rintro e w1 ⟨rfl, f1⟩
    have f01 := (hf0.alloc (.cells #[.int .i64 ticks] 3)).trans' f1
    have hb0 : w1.heap[w.heap.size]? = some (.cells #[.int .i64 ticks, .int .i64 times, .int .i64 sum, .int .i64 once] 23 (0, 0)) := f1.obj (heap_old _ (heap_new w _)) (fun x => x)
    have y1 := cell_of hb0 1
    have y2 := cell_of hb0 2
    have y3 := cell_of hb0 3
    simp at y1 y2 y3
    clear hb0 f1 hf0
    cases b1
    · go_wp2_with fail
      go_ret
      exact ⟨rfl, f01⟩
    · go_wp2_with fail
      refine (within_any _ _ 3 [times, sum, once] _ (ints3 _ times sum once _ rfl) b2 Hw2.out).mono ?_
      rintro e w2 ⟨rfl, f2⟩
      go_wp2_with fail
      go_ret
      exact ⟨rfl, (f01.alloc _).trans' f2⟩
  · go_enter Try.func10, Try.ntmps10
    go_wp2
    go_ret
    exact ⟨ret_bool (by rw [decide_eq_false (by omega)]; rfl), hf0⟩

set_option maxHeartbeats 800000 in
theorem may_any (r : Rule) (s : ByteArray) (amount now : Int) (b : Bool) (hb : mayB r s amount now = b) (w : World) :
    Calls Try.prog 24 #[r.val, .string s, .int .i64 amount, .int .i64 now] w fun e w' => e = .returned (.bool b) ∧ Fr noBlock w w' := by
  subst hb
  have hf0 := (Fr.refl noBlock w).alloc (.cells #[.int .i64 r.ticks, .int .i64 r.times, .int .i64 r.sum, .int .i64 r.once] 23)
  unfold mayB
  generalize hr : r.right = b0
  generalize hc : cardB s = b1
  generalize hw1 : withinB 999999999999 [amount] = b2
  generalize hw2 : withinB 1099511627776 [now] = b3
  have Hr := Lib.hid hr
  have Hc := Lib.hid hc
  have Hw1 := Lib.hid hw1
  have Hw2 := Lib.hid hw2
  clear hr hc hw1 hw2
  have Hright := Lib.hid (fun W => right_any r b0 Hr.out W)
  obtain ⟨ticks, times, sum, once⟩ := r
  unfold Rule.val at *
  simp only at *
  go_enter Try.func24, Try.ntmps24
  go_wp2_with fail
  refine (Hright.out _).mono ?_
  rintro e w1 ⟨rfl, f1⟩
  have f01 := hf0.trans' f1
  clear f1 hf0
  cases b0
  · go_wp2_with fail
    go_ret
    exact ⟨rfl, f01⟩
  · go_wp2_with fail
    refine (card_any s b1 Hc.out _).mono ?_
    rintro e w' ⟨rfl, rfl⟩
    cases b1
    · go_wp2_with fail
      go_ret
      exact ⟨rfl, f01⟩
    · go_wp2_with fail
      refine (within_any _ _ 1 [amount] _ (ints1 _ amount _ rfl) b2 Hw1.out).mono ?_
      rintro e w2 ⟨rfl, f2⟩
      have f02 := (f01.alloc _).trans' f2
      clear f2 f01
      cases b2
      · go_wp2_with fail
        go_ret
        exact ⟨rfl, f02⟩
      · go_wp2_with fail
        refine (within_any _ _ 1 [now] _ (ints1 _ now _ rfl) b3 Hw2.out).mono ?_
        rintro e w3 ⟨rfl, f3⟩
        go_wp2_with fail
        go_ret
        exact ⟨rfl, (f02.alloc _).trans' f3⟩
end Go.Proofs.Ytkcepppldhaiaaa
