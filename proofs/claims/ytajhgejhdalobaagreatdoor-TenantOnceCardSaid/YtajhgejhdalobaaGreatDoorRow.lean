/-
  ROWS OF RECORDS: a thing that lies in k cells ('Rec'), rows of such things, a row that is owned ('RowAt') or only read ('RowRd').
-/
import Derived.Lib.Hide
import Derived.Test.YtajhgejhdalobaaGreatDoorBase
namespace Go.Proofs.YtajhgejhdalobaaGreatDoor
open Go.RowKit

structure Rec (α : Type) where
  k : Nat
  cells : α → List Value
  len : ∀ a, (cells a).length = k
  one : ∀ a, ∀ u ∈ cells a, u.oneCell' = true

namespace Rec
variable {α : Type} (R : Rec α)
def flat (xs : List α) : List Value := xs.flatMap R.cells
theorem flat_append (xs ys : List α) : R.flat (xs ++ ys) = R.flat xs ++ R.flat ys := by simp [flat]
theorem flat_one (x : α) : R.flat [x] = R.cells x := by simp [flat]
theorem flat_len (xs : List α) : (R.flat xs).length = xs.length * R.k := by
  induction xs with
  | nil => simp [flat]
  | cons x xs ih =>
    have e : R.flat (x :: xs) = R.cells x ++ R.flat xs := by simp [flat]
    rw [e, List.length_append, ih, R.len, List.length_cons, Nat.add_mul]; omega
theorem flat_oneCell (xs : List α) : ∀ u ∈ R.flat xs, u.oneCell' = true := by
  intro u hu
  obtain ⟨p, _, hp⟩ := List.mem_flatMap.1 hu
  exact R.one p u hp
theorem flat_get {xs : List α} {i : Nat} (hi : i < xs.length) {j : Nat} (hj : j < R.k) : (R.flat xs)[i * R.k + j]? = (R.cells xs[i])[j]? := by
  induction xs generalizing i with
  | nil => simp at hi
  | cons x xs ih =>
    have e : R.flat (x :: xs) = R.cells x ++ R.flat xs := by simp [flat]
    rw [e]
    cases i with
    | zero => rw [List.getElem?_append_left (by rw [R.len]; omega)]; simp
    | succ i =>
      have e2 : (i + 1) * R.k + j = (R.cells x).length + (i * R.k + j) := by rw [R.len, Nat.add_mul]; omega
      rw [e2, List.getElem?_append_right (by omega), Nat.add_sub_cancel_left, ih (by simpa using hi)]
      simp
theorem flat_take (xs : List α) (n : Nat) : (R.flat xs).take (n * R.k) = R.flat (xs.take n) := by
  induction xs generalizing n with
  | nil => simp [flat]
  | cons x xs ih =>
    have e : R.flat (x :: xs) = R.cells x ++ R.flat xs := by simp [flat]
    cases n with
    | zero => simp [flat]
    | succ n =>
      rw [e, List.take_succ_cons]
      have e2 : R.flat (x :: xs.take n) = R.cells x ++ R.flat (xs.take n) := by simp [flat]
      rw [e2, ← ih, List.take_append, List.take_of_length_le (by rw [R.len, Nat.add_mul]; omega), R.len, Nat.add_mul]
      congr 2; omega
theorem flat_drop (xs : List α) (n : Nat) : (R.flat xs).drop (n * R.k) = R.flat (xs.drop n) := by
  induction xs generalizing n with
  | nil => simp [flat]
  | cons x xs ih =>
    have e : R.flat (x :: xs) = R.cells x ++ R.flat xs := by simp [flat]
    cases n with
    | zero => simp
    | succ n =>
      rw [e, List.drop_succ_cons, ← ih, List.drop_append, List.drop_of_length_le (by rw [R.len, Nat.add_mul]; omega), R.len, Nat.add_mul]
      simp
theorem flat_set {xs : List α} {i : Nat} (hi : i < xs.length) {j : Nat} (hj : j < R.k) (u : Value) (y : α) (hy : R.cells y = (R.cells xs[i]).set j u) : (R.flat xs).set (i * R.k + j) u = R.flat (xs.set i y) := by
  induction xs generalizing i with
  | nil => simp at hi
  | cons x xs ih =>
    have e : R.flat (x :: xs) = R.cells x ++ R.flat xs := by simp [flat]
    rw [e]
    cases i with
    | zero =>
      have e3 : R.flat (y :: xs) = R.cells y ++ R.flat xs := by simp [flat]
      rw [List.set_append_left _ _ (by rw [R.len]; omega), List.set_cons_zero, e3, hy]
      simp
    | succ i =>
      have e2 : (i + 1) * R.k + j = (R.cells x).length + (i * R.k + j) := by rw [R.len, Nat.add_mul]; omega
      have e3 : R.flat (x :: xs.set i y) = R.cells x ++ R.flat (xs.set i y) := by simp [flat]
      rw [e2, List.set_append_right _ _ (by omega), Nat.add_sub_cancel_left, ih (by simpa using hi) (by simpa using hy), List.set_cons_succ, e3]
end Rec

def RowAt {α : Type} (E : TypeId) (R : Rec α) (w : World) (v : Value) (xs : List α) : Prop := w.ownsRow 0 E R.k v xs.length (R.flat xs)

namespace RowAt
variable {α : Type} {E : TypeId} {R : Rec α} {w w' : World} {v : Value} {xs : List α}
theorem nil : RowAt E R w (.slice none 0 0) [] := World.ownsRow_nil _ _ _ _
theorem shape (h : RowAt E R w v xs) : ∃ (ao : Option Addr) (cap : Nat), v = .slice ao xs.length cap ∧ xs.length ≤ cap ∧ cap ≤ maxLen ∧ (∀ a, ao = some a → ∃ g, a = ⟨g, 0, none⟩ ∧ g < w.heap.size) ∧ (ao = none → xs = [] ∧ cap = 0) := by
  rcases h.2 with ⟨h1, h2⟩ | ⟨g, cap, cur, h1, _, hg, hc, hm, _⟩
  · exact ⟨none, 0, by rw [h1, h2], by omega, Nat.zero_le _, (fun a ha => by cases ha), fun _ => ⟨List.eq_nil_of_length_eq_zero h2, rfl⟩⟩
  · exact ⟨_, cap, h1, hc, hm, (fun a ha => by cases ha; exact ⟨g, rfl, heap_lt hg⟩), fun h => by cases h⟩
theorem fr {S : Nat → Prop} (h : RowAt E R w v xs) (hf : Fr S w w') (hn : ∀ k, v.ownBlock = some k → ¬ S k) : RowAt E R w' v xs := ownsRow_fr h hf hn
theorem fr0 (h : RowAt E R w v xs) (hf : Fr noBlock w w') : RowAt E R w' v xs := h.fr hf (fun _ _ x => x)
theorem lt (h : RowAt E R w v xs) : ∀ k, v.ownBlock = some k → k < w.heap.size := fun k hk => (World.ownsRow.lt h k hk).2
theorem elem {ao : Option Addr} {n cap : Nat} (h : RowAt E R w (.slice ao n cap) xs) {i : Nat} (hi : i < xs.length) :
    ∃ g, ao = some ⟨g, 0, none⟩ ∧ g < w.heap.size ∧ n = xs.length ∧ n ≤ cap ∧ (∀ j u, (R.cells xs[i])[j]? = some u → w.cell? ⟨g, i * R.k + j, none⟩ = some u) ∧ ∀ o, w.frozen? ⟨g, o, none⟩ = false := by
  rcases h.2 with ⟨_, h2⟩ | ⟨g, cap', cur, hv, _, hg, hcap, _⟩
  · omega
  · simp only [Value.slice.injEq] at hv
    obtain ⟨rfl, rfl, rfl⟩ := hv
    have hc := h.cells (g := g) rfl
    refine ⟨g, rfl, heap_lt hg, rfl, hcap, fun j u hu => ?_, fun o => free_of hg o⟩
    have hj : j < R.k := by have := (List.getElem?_eq_some_iff.1 hu).1; rwa [R.len] at this
    have := hc (i * R.k + j) u ((R.flat_get hi hj).trans hu)
    rwa [Addr.add_lit, Nat.zero_add] at this
theorem set {g n cap i j : Nat} {u : Value} (h : RowAt E R w (.slice (some ⟨g, 0, none⟩) n cap) xs) (hi : i < xs.length) (hj : j < R.k) (y : α) (hy : R.cells y = (R.cells xs[i]).set j u) :
    RowAt E R (w.setCell ⟨g, i * R.k + j, none⟩ u) (.slice (some ⟨g, 0, none⟩) n cap) (xs.set i y) := by
  obtain ⟨h1, h2 | ⟨g', cap', cur, hv, hb, hg, hn, hm, hc, ht⟩⟩ := h
  · simp at h2
  · simp only [Value.slice.injEq, Option.some.injEq, Addr.mk.injEq, and_true] at hv
    obtain ⟨rfl, rfl, rfl⟩ := hv
    rw [RowAt, List.length_set]
    refine ⟨by rw [R.flat_len, List.length_set], .inr ⟨g, cap, cur.setIfInBounds (i * R.k + j) u, rfl, hb, heap_set_eq hg, hn, hm, by simpa using hc, ?_⟩⟩
    rw [Array.toList_setIfInBounds, List.take_set, ht, R.flat_set hi hj u y hy]
theorem block {g n cap : Nat} (h : RowAt E R w (.slice (some ⟨g, 0, none⟩) n cap) xs) : ∃ cur, w.heap[g]? = some (.cells cur E (0, 0)) ∧ n = xs.length ∧ n ≤ cap ∧ cap ≤ maxLen ∧ cur.size = cap * R.k ∧ cur.toList.take (n * R.k) = R.flat xs := by
  obtain ⟨h1, h2 | ⟨g', cap', cur, hv, hb, hg, hn, hm, hc, ht⟩⟩ := h
  · simp at h2
  · simp only [Value.slice.injEq, Option.some.injEq, Addr.mk.injEq, and_true] at hv
    obtain ⟨rfl, rfl, rfl⟩ := hv
    exact ⟨cur, hg, rfl, hn, hm, hc, ht⟩
theorem of_block {g cap : Nat} {cur : Array Value} (hg : w.heap[g]? = some (.cells cur E (0, 0))) (hn : xs.length ≤ cap) (hm : cap ≤ maxLen) (hc : cur.size = cap * R.k) (ht : cur.toList.take (xs.length * R.k) = R.flat xs) : RowAt E R w (.slice (some ⟨g, 0, none⟩) xs.length cap) xs :=
  ⟨R.flat_len xs, .inr ⟨g, cap, cur, rfl, Nat.zero_le _, hg, hn, hm, hc, ht⟩⟩
end RowAt

structure RowRd {α : Type} (R : Rec α) (w : World) (ao : Option Addr) (xs : List α) : Prop where
  len : xs.length ≤ maxLen
  at' : ∀ (i : Nat) (h : i < xs.length), ∃ b off, ao = some ⟨b, off, none⟩ ∧ b < w.heap.size ∧ ∀ j u, (R.cells xs[i])[j]? = some u → w.cell? ⟨b, off + i * R.k + j, none⟩ = some u

namespace RowRd
variable {α : Type} {E : TypeId} {R : Rec α} {w w' : World} {ao : Option Addr} {xs : List α}
theorem nil : RowRd R w ao [] := ⟨Nat.zero_le _, fun i hi => by simp at hi⟩
theorem fr {S : Nat → Prop} (h : RowRd R w ao xs) (hf : Fr S w w') (hn : ∀ b off, ao = some ⟨b, off, none⟩ → ¬ S b) : RowRd R w' ao xs := by
  refine ⟨h.len, fun i hi => ?_⟩
  obtain ⟨b, off, h1, h2, h3⟩ := h.at' i hi
  exact ⟨b, off, h1, Nat.lt_of_lt_of_le h2 hf.size, fun j u hu => (hf.cell (p := ⟨b, _, none⟩) h2 (hn b off h1)).trans (h3 j u hu)⟩
theorem fr0 (h : RowRd R w ao xs) (hf : Fr noBlock w w') : RowRd R w' ao xs := h.fr hf (fun _ _ _ x => x)
theorem below (h : RowRd R w ao xs) (hb : Below w.heap.size w w') : RowRd R w' ao xs := h.fr0 (Fr.of_below hb)
theorem of_at {n cap : Nat} (h : RowAt E R w (.slice ao n cap) xs) (hl : xs.length ≤ maxLen) : RowRd R w ao xs := by
  refine ⟨hl, fun i hi => ?_⟩
  obtain ⟨g, rfl, hg, _, _, hc, _⟩ := h.elem hi
  exact ⟨g, 0, rfl, hg, fun j u hu => by rw [Nat.zero_add]; exact hc j u hu⟩
theorem cells {a : Addr} (h : RowRd R w (some a) xs) : ∀ j u, (R.flat xs)[j]? = some u → w.cell? (a.add j) = some u := by
  intro j u hu
  have hj : j < (R.flat xs).length := (List.getElem?_eq_some_iff.1 hu).1
  rw [R.flat_len] at hj
  have hk0 : 0 < R.k := Nat.pos_of_ne_zero (fun e => by rw [e] at hj; omega)
  have hi : j / R.k < xs.length := Nat.div_lt_of_lt_mul (by rwa [Nat.mul_comm] at hj)
  obtain ⟨b, off, e, hb, hc⟩ := h.at' (j / R.k) hi
  obtain rfl := Option.some.inj e
  have e4 : j / R.k * R.k + j % R.k = j := Nat.div_add_mod' j R.k
  have hf := R.flat_get hi (Nat.mod_lt j hk0)
  rw [e4, hu] at hf
  rw [Addr.add_lit, show off + j = off + j / R.k * R.k + j % R.k by omega]
  exact hc _ _ hf.symm
end RowRd

theorem choose_lt' {α : Type} [Inhabited α] {n : Nat} {p : Nat → α → Prop} (h : ∀ i, i < n → ∃ x, p i x) : ∃ f : Nat → α, ∀ i, i < n → p i (f i) :=
  ⟨fun i => if hi : i < n then (h i hi).choose else default, fun i hi => by simp only [dif_pos hi]; exact (h i hi).choose_spec⟩
end Go.Proofs.YtajhgejhdalobaaGreatDoor
