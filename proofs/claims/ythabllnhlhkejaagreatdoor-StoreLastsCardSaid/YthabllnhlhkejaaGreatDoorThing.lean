/-
  THINGS IN MEMORY: a thing is said of a world and a footprint (the blocks in which it lies); one step of a thing; things of our own; two things apart; a block with one slice ('Hold').
-/
import Derived.Lib.Hide
import Derived.Test.YthabllnhlhkejaaGreatDoorBase
namespace Go.Proofs.YthabllnhlhkejaaGreatDoor
open Go.RowKit

/-- how a thing lies in cells -/
structure Rec (α : Type) where
  k : Nat
  cells : α → List Value
  len : ∀ a, (cells a).length = k
  one : ∀ a, ∀ u ∈ cells a, u.oneCell' = true

namespace Rec
variable {α : Type} (R : Rec α)
def flat (xs : List α) : List Value := xs.flatMap R.cells
theorem flat_nil : R.flat [] = [] := rfl
theorem flat_append (xs ys : List α) : R.flat (xs ++ ys) = R.flat xs ++ R.flat ys := by simp [flat]
theorem flat_one (x : α) : R.flat [x] = R.cells x := by simp [flat]
theorem flat_len (xs : List α) : (R.flat xs).length = xs.length * R.k := by
  induction xs with
  | nil => simp [flat]
  | cons x xs ih =>
    have e : R.flat (x :: xs) = R.cells x ++ R.flat xs := by simp [flat]
    rw [e, List.length_append, ih, R.len, List.length_cons, Nat.add_mul]; omega
theorem flat_oneCell (xs : List α) : ∀ u ∈ R.flat xs, u.oneCell' = true := by
  intro u hu
  obtain ⟨p, _, hp⟩ := List.mem_flatMap.1 hu
  exact R.one p u hp
theorem flat_get {xs : List α} {i : Nat} (hi : i < xs.length) {j : Nat} (hj : j < R.k) : (R.flat xs)[i * R.k + j]? = (R.cells xs[i])[j]? := by
  induction xs generalizing i with
  | nil => simp at hi
  | cons x xs ih =>
    have e : R.flat (x :: xs) = R.cells x ++ R.flat xs := by simp [flat]
    rw [e]
    cases i with
    | zero => rw [List.getElem?_append_left (by rw [R.len]; omega)]; simp
    | succ i =>
      have e2 : (i + 1) * R.k + j = (R.cells x).length + (i * R.k + j) := by rw [R.len, Nat.add_mul]; omega
      rw [e2, List.getElem?_append_right (by omega), Nat.add_sub_cancel_left, ih (by simpa using hi)]
      simp
theorem flat_take (xs : List α) (n : Nat) : (R.flat xs).take (n * R.k) = R.flat (xs.take n) := by
  induction xs generalizing n with
  | nil => simp [flat]
  | cons x xs ih =>
    have e : R.flat (x :: xs) = R.cells x ++ R.flat xs := by simp [flat]
    cases n with
    | zero => simp [flat]
    | succ n =>
      rw [e, List.take_succ_cons]
      have e2 : R.flat (x :: xs.take n) = R.cells x ++ R.flat (xs.take n) := by simp [flat]
      rw [e2, ← ih, List.take_append, List.take_of_length_le (by rw [R.len, Nat.add_mul]; omega), R.len, Nat.add_mul]
      congr 2; omega
theorem flat_drop (xs : List α) (n : Nat) : (R.flat xs).drop (n * R.k) = R.flat (xs.drop n) := by
  induction xs generalizing n with
  | nil => simp [flat]
  | cons x xs ih =>
    have e : R.flat (x :: xs) = R.cells x ++ R.flat xs := by simp [flat]
    cases n with
    | zero => simp
    | succ n =>
      rw [e, List.drop_succ_cons, ← ih, List.drop_append, List.drop_of_length_le (by rw [R.len, Nat.add_mul]; omega), R.len, Nat.add_mul]
      simp
/-- one cell of one thing is written -/
theorem flat_set {xs : List α} {i : Nat} (hi : i < xs.length) {j : Nat} (hj : j < R.k) (u : Value) (y : α) (hy : R.cells y = (R.cells xs[i]).set j u) : (R.flat xs).set (i * R.k + j) u = R.flat (xs.set i y) := by
  induction xs generalizing i with
  | nil => simp at hi
  | cons x xs ih =>
    have e : R.flat (x :: xs) = R.cells x ++ R.flat xs := by simp [flat]
    rw [e]
    cases i with
    | zero =>
      have e3 : R.flat (y :: xs) = R.cells y ++ R.flat xs := by simp [flat]
      rw [List.set_append_left _ _ (by rw [R.len]; omega), List.set_cons_zero, e3, hy]
      simp
    | succ i =>
      have e2 : (i + 1) * R.k + j = (R.cells x).length + (i * R.k + j) := by rw [R.len, Nat.add_mul]; omega
      have e3 : R.flat (x :: xs.set i y) = R.cells x ++ R.flat (xs.set i y) := by simp [flat]
      rw [e2, List.set_append_right _ _ (by omega), Nat.add_sub_cancel_left, ih (by simpa using hi) (by simpa using hy), List.set_cons_succ, e3]
end Rec

/-- the value v owns a row of the things xs -/
def RowAt {α : Type} (E : TypeId) (R : Rec α) (w : World) (v : Value) (xs : List α) : Prop := w.ownsRow 0 E R.k v xs.length (R.flat xs)

namespace RowAt
variable {α : Type} {E : TypeId} {R : Rec α} {w w' : World} {v : Value} {xs : List α}
theorem nil : RowAt E R w (.slice none 0 0) [] := World.ownsRow_nil _ _ _ _
theorem shape (h : RowAt E R w v xs) : ∃ (ao : Option Addr) (cap : Nat), v = .slice ao xs.length cap ∧ xs.length ≤ cap ∧ cap ≤ maxLen ∧ (∀ a, ao = some a → ∃ g, a = ⟨g, 0, none⟩ ∧ g < w.heap.size) ∧ (ao = none → xs = [] ∧ cap = 0) := by
  rcases h.2 with ⟨h1, h2⟩ | ⟨g, cap, cur, h1, _, hg, hc, hm, _⟩
  · exact ⟨none, 0, by rw [h1, h2], by omega, Nat.zero_le _, (fun a ha => by cases ha), fun _ => ⟨List.eq_nil_of_length_eq_zero h2, rfl⟩⟩
  · exact ⟨_, cap, h1, hc, hm, (fun a ha => by cases ha; exact ⟨g, rfl, heap_lt hg⟩), fun h => by cases h⟩
theorem fr {S : Nat → Prop} (h : RowAt E R w v xs) (hf : Fr S w w') (hn : ∀ k, v.ownBlock = some k → ¬ S k) : RowAt E R w' v xs := ownsRow_fr h hf hn
theorem fr0 (h : RowAt E R w v xs) (hf : Fr noBlock w w') : RowAt E R w' v xs := h.fr hf (fun _ _ x => x)
theorem lt (h : RowAt E R w v xs) : ∀ k, v.ownBlock = some k → k < w.heap.size := fun k hk => (World.ownsRow.lt h k hk).2
/-- the i-th thing: where it lies, its cells -/
theorem elem {ao : Option Addr} {n cap : Nat} (h : RowAt E R w (.slice ao n cap) xs) {i : Nat} (hi : i < xs.length) :
    ∃ g, ao = some ⟨g, 0, none⟩ ∧ g < w.heap.size ∧ n = xs.length ∧ n ≤ cap ∧ (∀ j u, (R.cells xs[i])[j]? = some u → w.cell? ⟨g, i * R.k + j, none⟩ = some u) ∧ ∀ o, w.frozen? ⟨g, o, none⟩ = false := by
  rcases h.2 with ⟨_, h2⟩ | ⟨g, cap', cur, hv, _, hg, hcap, _⟩
  · omega
  · simp only [Value.slice.injEq] at hv
    obtain ⟨rfl, rfl, rfl⟩ := hv
    have hc := h.cells (g := g) rfl
    refine ⟨g, rfl, heap_lt hg, rfl, hcap, fun j u hu => ?_, fun o => free_of hg o⟩
    have hj : j < R.k := by have := (List.getElem?_eq_some_iff.1 hu).1; rwa [R.len] at this
    have := hc (i * R.k + j) u ((R.flat_get hi hj).trans hu)
    rwa [Addr.add_lit, Nat.zero_add] at this
/-- a cell of the row is written -/
theorem set {g n cap i j : Nat} {u : Value} (h : RowAt E R w (.slice (some ⟨g, 0, none⟩) n cap) xs) (hi : i < xs.length) (hj : j < R.k) (y : α) (hy : R.cells y = (R.cells xs[i]).set j u) :
    RowAt E R (w.setCell ⟨g, i * R.k + j, none⟩ u) (.slice (some ⟨g, 0, none⟩) n cap) (xs.set i y) := by
  obtain ⟨h1, h2 | ⟨g', cap', cur, hv, hb, hg, hn, hm, hc, ht⟩⟩ := h
  · simp at h2
  · simp only [Value.slice.injEq, Option.some.injEq, Addr.mk.injEq, and_true] at hv
    obtain ⟨rfl, rfl, rfl⟩ := hv
    rw [RowAt, List.length_set]
    refine ⟨by rw [R.flat_len, List.length_set], .inr ⟨g, cap, cur.setIfInBounds (i * R.k + j) u, rfl, hb, heap_set_eq hg, hn, hm, by simpa using hc, ?_⟩⟩
    rw [Array.toList_setIfInBounds, List.take_set, ht, R.flat_set hi hj u y hy]
/-- the whole block -/
theorem block {g n cap : Nat} (h : RowAt E R w (.slice (some ⟨g, 0, none⟩) n cap) xs) : ∃ cur, w.heap[g]? = some (.cells cur E (0, 0)) ∧ n = xs.length ∧ n ≤ cap ∧ cap ≤ maxLen ∧ cur.size = cap * R.k ∧ cur.toList.take (n * R.k) = R.flat xs := by
  obtain ⟨h1, h2 | ⟨g', cap', cur, hv, hb, hg, hn, hm, hc, ht⟩⟩ := h
  · simp at h2
  · simp only [Value.slice.injEq, Option.some.injEq, Addr.mk.injEq, and_true] at hv
    obtain ⟨rfl, rfl, rfl⟩ := hv
    exact ⟨cur, hg, rfl, hn, hm, hc, ht⟩
theorem of_block {g cap : Nat} {cur : Array Value} (hg : w.heap[g]? = some (.cells cur E (0, 0))) (hn : xs.length ≤ cap) (hm : cap ≤ maxLen) (hc : cur.size = cap * R.k) (ht : cur.toList.take (xs.length * R.k) = R.flat xs) : RowAt E R w (.slice (some ⟨g, 0, none⟩) xs.length cap) xs :=
  ⟨R.flat_len xs, .inr ⟨g, cap, cur, rfl, Nat.zero_le _, hg, hn, hm, hc, ht⟩⟩
/-- all things written anew: a store of one value in all cells of one thing -/
theorem own_some {g n cap : Nat} : (Value.slice (some ⟨g, 0, none⟩) n cap).ownBlock = some g := rfl
end RowAt

/-- a row that is only read, wherever it lies -/
structure RowRd {α : Type} (R : Rec α) (w : World) (ao : Option Addr) (xs : List α) : Prop where
  len : xs.length ≤ maxLen
  at' : ∀ (i : Nat) (h : i < xs.length), ∃ b off, ao = some ⟨b, off, none⟩ ∧ b < w.heap.size ∧ ∀ j u, (R.cells xs[i])[j]? = some u → w.cell? ⟨b, off + i * R.k + j, none⟩ = some u

namespace RowRd
variable {α : Type} {E : TypeId} {R : Rec α} {w w' : World} {ao : Option Addr} {xs : List α}
theorem nil : RowRd R w ao [] := ⟨Nat.zero_le _, fun i hi => by simp at hi⟩
theorem fr {S : Nat → Prop} (h : RowRd R w ao xs) (hf : Fr S w w') (hn : ∀ b off, ao = some ⟨b, off, none⟩ → ¬ S b) : RowRd R w' ao xs := by
  refine ⟨h.len, fun i hi => ?_⟩
  obtain ⟨b, off, h1, h2, h3⟩ := h.at' i hi
  exact ⟨b, off, h1, Nat.lt_of_lt_of_le h2 hf.size, fun j u hu => (hf.cell (p := ⟨b, _, none⟩) h2 (hn b off h1)).trans (h3 j u hu)⟩
theorem fr0 (h : RowRd R w ao xs) (hf : Fr noBlock w w') : RowRd R w' ao xs := h.fr hf (fun _ _ _ x => x)
theorem below (h : RowRd R w ao xs) (hb : Below w.heap.size w w') : RowRd R w' ao xs := h.fr0 (Fr.of_below hb)
theorem of_at {n cap : Nat} (h : RowAt E R w (.slice ao n cap) xs) (hl : xs.length ≤ maxLen) : RowRd R w ao xs := by
  refine ⟨hl, fun i hi => ?_⟩
  obtain ⟨g, rfl, hg, _, _, hc, _⟩ := h.elem hi
  exact ⟨g, 0, rfl, hg, fun j u hu => by rw [Nat.zero_add]; exact hc j u hu⟩
/-- all cells in a row, for an append of it -/
theorem cells {a : Addr} (h : RowRd R w (some a) xs) : ∀ j u, (R.flat xs)[j]? = some u → w.cell? (a.add j) = some u := by
  intro j u hu
  have hj : j < (R.flat xs).length := (List.getElem?_eq_some_iff.1 hu).1
  rw [R.flat_len] at hj
  have hk0 : 0 < R.k := Nat.pos_of_ne_zero (fun e => by rw [e] at hj; omega)
  have hi : j / R.k < xs.length := Nat.div_lt_of_lt_mul (by rwa [Nat.mul_comm] at hj)
  obtain ⟨b, off, e, hb, hc⟩ := h.at' (j / R.k) hi
  obtain rfl := Option.some.inj e
  have e4 : j / R.k * R.k + j % R.k = j := Nat.div_add_mod' j R.k
  have hf := R.flat_get hi (Nat.mod_lt j hk0)
  rw [e4, hu] at hf
  rw [Addr.add_lit, show off + j = off + j / R.k * R.k + j % R.k by omega]
  exact hc _ _ hf.symm
end RowRd

/-- THE ROW FRESHLY MADE by an append to nothing: what 'slices.Clone', 'append([]T{}, l...)' leave -/
theorem choose_lt' {α : Type} [Inhabited α] {n : Nat} {p : Nat → α → Prop} (h : ∀ i, i < n → ∃ x, p i x) : ∃ f : Nat → α, ∀ i, i < n → p i (f i) :=
  ⟨fun i => if hi : i < n then (h i hi).choose else default, fun i hi => by simp only [dif_pos hi]; exact (h i hi).choose_spec⟩
end Go.Proofs.YthabllnhlhkejaaGreatDoor
namespace Go.Proofs.YthabllnhlhkejaaGreatDoor
open Go.RowKit

/-- one step of a thing that lies in the blocks F, then in F' -/
structure Step (F F' : Nat → Prop) (w w' : World) : Prop where
  fr : Fr F w w'
  foot : ∀ k, F' k → F k ∨ w.heap.size ≤ k

namespace Step
variable {F F' F'' G : Nat → Prop} {w w' w'' : World}
theorem below (h : Step F F' w w') {B : Nat} (hF : ∀ k, F k → B ≤ k) (hB : B ≤ w.heap.size) : Below B w w' ∧ ∀ k, F' k → B ≤ k :=
  ⟨h.fr.below hB hF, fun k hk => (h.foot k hk).elim (hF k) (fun h => by omega)⟩
/-- what lies apart stays apart -/
theorem apart (h : Step F F' w w') (hd : ∀ k, F k → ¬ G k) (hG : ∀ k, G k → k < w.heap.size) : ∀ k, F' k → ¬ G k :=
  fun k hk hg => (h.foot k hk).elim (fun hf => hd k hf hg) (fun hle => by have := hG k hg; omega)
theorem refl (F : Nat → Prop) (w : World) : Step F F w w := ⟨Fr.refl _ _, fun _ h => .inl h⟩
theorem same (hf : Fr noBlock w w') : Step F F w w' := ⟨hf.mono (fun _ x => x.elim), fun _ h => .inl h⟩
theorem trans (h : Step F F' w w') (g : Step F' F'' w' w'') : Step F F'' w w'' :=
  ⟨h.fr.trans g.fr h.foot, fun k hk => (g.foot k hk).elim (h.foot k) (fun hle => .inr (Nat.le_trans h.fr.size hle))⟩
/-- a block apart stays as it is -/
theorem keep (h : Step F F' w w') {b : Nat} (hb : b < w.heap.size) (hn : ¬ F b) : (∀ o, w'.cell? ⟨b, o, none⟩ = w.cell? ⟨b, o, none⟩) ∧ b < w'.heap.size ∧ ¬ F' b :=
  ⟨fun _ => h.fr.cell hb hn, Nat.lt_of_lt_of_le hb h.fr.size, fun hk => (h.foot b hk).elim hn (fun hle => by omega)⟩
theorem size (h : Step F F' w w') : w.heap.size ≤ w'.heap.size := h.fr.size
/-- then only blocks that are new are turned -/
theorem news {S : Nat → Prop} (h : Step F F' w w') (hf : Fr S w' w'') (hS : ∀ k, S k → w.heap.size ≤ k) : Step F F' w w'' := ⟨h.fr.trans hf (fun k hk => .inr (hS k hk)), h.foot⟩
end Step

def Thing := World → (Nat → Prop) → Prop
/-- a thing stands while other blocks are turned -/
structure Thing.Ok (A : Thing) : Prop where
  lt : ∀ {w F}, A w F → ∀ k, F k → k < w.heap.size
  fr : ∀ {w w' F S}, A w F → Fr S w w' → (∀ k, F k → ¬ S k) → A w' F
theorem Thing.Ok.fr0 {A : Thing} (ok : A.Ok) {w w' : World} {F : Nat → Prop} (h : A w F) (hf : Fr noBlock w w') : A w' F := ok.fr h hf (fun _ _ x => x)
theorem Thing.Ok.new {A : Thing} (ok : A.Ok) {w : World} {F : Nat → Prop} (h : A w F) : ¬ F w.heap.size := fun hf => Nat.lt_irrefl _ (ok.lt h _ hf)

/-- two things apart -/
def Two (A B : Thing) : Thing := fun w H => ∃ F G, A w F ∧ B w G ∧ (∀ k, F k → ¬ G k) ∧ ∀ k, H k ↔ F k ∨ G k
theorem Two.ok {A B : Thing} (a : A.Ok) (b : B.Ok) : (Two A B).Ok := by
  refine ⟨?_, ?_⟩
  · rintro w H ⟨F, G, h1, h2, _, h4⟩ k hk
    rcases (h4 k).1 hk with h | h
    · exact a.lt h1 k h
    · exact b.lt h2 k h
  · rintro w w' H S ⟨F, G, h1, h2, h3, h4⟩ hf hs
    exact ⟨F, G, a.fr h1 hf (fun k hk => hs k ((h4 k).2 (.inl hk))), b.fr h2 hf (fun k hk => hs k ((h4 k).2 (.inr hk))), h3, h4⟩
theorem Two.left {A' B : Thing} (b : B.Ok) {w w' : World} {F F' G H : Nat → Prop} (h2 : B w G) (h3 : ∀ k, F k → ¬ G k) (h4 : ∀ k, H k ↔ F k ∨ G k) (h' : A' w' F') (hs : Step F F' w w') : Two A' B w' (fun k => F' k ∨ G k) ∧ Step H (fun k => F' k ∨ G k) w w' :=
  ⟨⟨F', G, h', b.fr h2 hs.fr (fun k hk hf => h3 k hf hk), hs.apart h3 (b.lt h2), fun _ => Iff.rfl⟩,
    ⟨hs.fr.mono (fun k hk => (h4 k).2 (.inl hk)), fun k hk => hk.elim (fun hk => (hs.foot k hk).imp (fun h => (h4 k).2 (.inl h)) (fun h => h)) (fun hk => .inl ((h4 k).2 (.inr hk)))⟩⟩
theorem Two.right {A B' : Thing} (a : A.Ok) {w w' : World} {F G G' H : Nat → Prop} (h1 : A w F) (h3 : ∀ k, F k → ¬ G k) (h4 : ∀ k, H k ↔ F k ∨ G k) (h' : B' w' G') (hs : Step G G' w w') : Two A B' w' (fun k => F k ∨ G' k) ∧ Step H (fun k => F k ∨ G' k) w w' :=
  ⟨⟨F, G', a.fr h1 hs.fr h3, h', fun k hf hg => hs.apart (fun k hg hf => h3 k hf hg) (a.lt h1) k hg hf, fun _ => Iff.rfl⟩,
    ⟨hs.fr.mono (fun k hk => (h4 k).2 (.inr hk)), fun k hk => hk.elim (fun hk => .inl ((h4 k).2 (.inl hk))) (fun hk => (hs.foot k hk).imp (fun h => (h4 k).2 (.inr h)) (fun h => h))⟩⟩
/-- a new thing beside one that was there -/
theorem Two.join {A B : Thing} (a : A.Ok) {w w' : World} {F G : Nat → Prop} (h1 : A w F) (hf : Fr noBlock w w') (h2 : B w' G) (hn : ∀ k, G k → w.heap.size ≤ k) : Two A B w' (fun k => F k ∨ G k) :=
  ⟨F, G, a.fr0 h1 hf, h2, fun k hk hg => by have := a.lt h1 k hk; have := hn k hg; omega, fun _ => Iff.rfl⟩

/-- a thing of our own: it lies in blocks that were not there in w0, and nothing of w0 has turned -/
structure Mine (w0 : World) (A : Thing) (w : World) (F : Nat → Prop) : Prop where
  it : A w F
  base : ∀ k, F k → w0.heap.size ≤ k
  below : Below w0.heap.size w0 w

namespace Mine
variable {w0 w w' : World} {A A' : Thing} {F F' : Nat → Prop}
theorem fr (h : Mine w0 A w F) (ok : A.Ok) (hf : Fr noBlock w w') : Mine w0 A w' F :=
  ⟨ok.fr0 h.it hf, h.base, h.below.trans (hf.below h.below.size (fun _ hk => hk.elim))⟩
theorem step (h : Mine w0 A w F) (h' : A' w' F') (hs : Step F F' w w') : Mine w0 A' w' F' := by
  obtain ⟨h1, h2⟩ := hs.below h.base h.below.size
  exact ⟨h', h2, h.below.trans h1⟩
theorem new {w1 : World} (hb : Below w0.heap.size w0 w1) (hf : Fr noBlock w1 w) (h : A w F) (hn : ∀ k, F k → w1.heap.size ≤ k) : Mine w0 A w F :=
  ⟨h, fun k hk => Nat.le_trans hb.size (hn k hk), hb.trans (hf.below hb.size (fun _ hk => hk.elim))⟩
theorem join {B : Thing} {G : Nat → Prop} (h : Mine w0 A w F) (a : A.Ok) (hf : Fr noBlock w w') (h2 : B w' G) (hn : ∀ k, G k → w.heap.size ≤ k) : Mine w0 (Two A B) w' (fun k => F k ∨ G k) :=
  ⟨Two.join a h.it hf h2 hn, fun k hk => hk.elim (h.base k) (fun hk => Nat.le_trans h.below.size (hn k hk)), h.below.trans (hf.below h.below.size (fun _ hk => hk.elim))⟩
theorem conv (h : Mine w0 A w F) (hA : A w F → A' w F) : Mine w0 A' w F := ⟨hA h.it, h.base, h.below⟩
theorem size (h : Mine w0 A w F) : w0.heap.size ≤ w.heap.size := h.below.size
/-- one of two makes a step -/
theorem left {B : Thing} (b : B.Ok) (h : Mine w0 (Two A B) w F) : ∃ G, A w G ∧ ∀ (A' : Thing) (w' : World) (G' : Nat → Prop), A' w' G' → Step G G' w w' → ∃ F', Mine w0 (Two A' B) w' F' := by
  obtain ⟨⟨G, G2, h1, h2, h3, h4⟩, hb, hw⟩ := h
  refine ⟨G, h1, fun A' w' G' h' hs => ?_⟩
  obtain ⟨r1, r2⟩ := Two.left b h2 h3 h4 h' hs
  exact ⟨_, Mine.step (A := Two A B) ⟨⟨G, G2, h1, h2, h3, h4⟩, hb, hw⟩ r1 r2⟩
theorem right {B : Thing} (a : A.Ok) (h : Mine w0 (Two A B) w F) : ∃ G, B w G ∧ ∀ (B' : Thing) (w' : World) (G' : Nat → Prop), B' w' G' → Step G G' w w' → ∃ F', Mine w0 (Two A B') w' F' := by
  obtain ⟨⟨G, G2, h1, h2, h3, h4⟩, hb, hw⟩ := h
  refine ⟨G2, h2, fun B' w' G' h' hs => ?_⟩
  obtain ⟨r1, r2⟩ := Two.right a h1 h3 h4 h' hs
  exact ⟨_, Mine.step (A := Two A B) ⟨⟨G, G2, h1, h2, h3, h4⟩, hb, hw⟩ r1 r2⟩
/-- one of two alone -/
theorem fst {B : Thing} (h : Mine w0 (Two A B) w F) : ∃ G, Mine w0 A w G := by
  obtain ⟨⟨G, G2, h1, h2, h3, h4⟩, hb, hw⟩ := h
  exact ⟨G, h1, fun k hk => hb k ((h4 k).2 (.inl hk)), hw⟩
theorem snd {B : Thing} (h : Mine w0 (Two A B) w F) : ∃ G, Mine w0 B w G := by
  obtain ⟨⟨G, G2, h1, h2, h3, h4⟩, hb, hw⟩ := h
  exact ⟨G2, h2, fun k hk => hb k ((h4 k).2 (.inr hk)), hw⟩
end Mine

/-- A BLOCK WITH ONE SLICE, which owns a row of things: at l, of type T -/
def Hold {α : Type} (T E : TypeId) (R : Rec α) (l : Nat) (xs : List α) : Thing := fun w F =>
  ∃ v, w.heap[l]? = some (.cells #[v] T (0, 0)) ∧ RowAt E R w v xs ∧ v.ownBlock ≠ some l ∧ ∀ k, F k ↔ (k = l ∨ v.ownBlock = some k)

namespace Hold
variable {α : Type} {T E : TypeId} {R : Rec α} {l : Nat} {xs ys : List α} {w w' w2 : World} {F : Nat → Prop}
theorem ok : (Hold T E R l xs).Ok := by
  refine ⟨?_, ?_⟩
  · rintro w F ⟨v, h1, h2, h3, h4⟩ k hk
    rcases (h4 k).1 hk with rfl | hk
    · exact heap_lt h1
    · exact h2.lt k hk
  · rintro w w' F S ⟨v, h1, h2, h3, h4⟩ hf hs
    exact ⟨v, hf.obj h1 (hs _ ((h4 _).2 (.inl rfl))), h2.fr hf (fun k hk => hs k ((h4 k).2 (.inr hk))), h3, h4⟩
theorem own (h : Hold T E R l xs w F) : F l := by obtain ⟨v, h1, h2, h3, h4⟩ := h; exact (h4 l).2 (.inl rfl)
/-- its cell, its row -/
theorem opened (h : Hold T E R l xs w F) :
    ∃ vo cap, w.cell? ⟨l, 0, none⟩ = some (.slice vo xs.length cap) ∧ w.frozen? ⟨l, 0, none⟩ = false ∧ l < w.heap.size ∧ xs.length ≤ cap ∧ cap ≤ maxLen ∧ RowAt E R w (.slice vo xs.length cap) xs ∧ (∀ g, vo = some ⟨g, 0, none⟩ → g ≠ l ∧ F g) ∧
      (Value.slice vo xs.length cap).ownBlock ≠ some l ∧ (vo = none → xs = [] ∧ cap = 0) ∧ ∀ k, (Value.slice vo xs.length cap).ownBlock = some k → F k := by
  obtain ⟨v, h1, h2, h3, h4⟩ := h
  obtain ⟨vo, cap, rfl, hc, hm, _, hn⟩ := h2.shape
  have c0 := cell_of h1 0
  simp at c0
  exact ⟨vo, cap, c0, free_of h1 0, heap_lt h1, hc, hm, h2, fun g hg => ⟨fun e => h3 (by rw [hg, e]; rfl), (h4 g).2 (.inr (by rw [hg]; rfl))⟩, h3, hn, fun k hk => (h4 k).2 (.inr hk)⟩
/-- a new one -/
theorem made (w : World) : Hold T E R w.heap.size [] (w.alloc (.cells #[.slice none 0 0] T)) (fun k => k = w.heap.size) :=
  ⟨_, heap_new w _, RowAt.nil, by simp [Value.ownBlock], fun k => by simp [Value.ownBlock]⟩
/-- another slice is laid into it -/
theorem replace (h : Hold T E R l xs w F) (hf : Fr F w w2) (hl : w2.heap[l]? = w.heap[l]?) {v' : Value} (hr : RowAt E R w2 v' ys) (hv : ∀ g, v'.ownBlock = some g → g ≠ l ∧ (F g ∨ w.heap.size ≤ g)) :
    Hold T E R l ys (w2.setCell ⟨l, 0, none⟩ v') (fun k => k = l ∨ v'.ownBlock = some k) ∧ Step F (fun k => k = l ∨ v'.ownBlock = some k) w (w2.setCell ⟨l, 0, none⟩ v') := by
  have hFl := h.own
  obtain ⟨v, h1, h2, h3, h4⟩ := h
  have hb : w2.heap[l]? = _ := hl.trans h1
  refine ⟨⟨v', ?_, hr.fr ((Fr.refl (fun k => k = l) w2).setCell (p := ⟨l, 0, none⟩) (.inl rfl) v') (fun k hk e => (hv k hk).1 e), fun e => (hv l e).1 rfl, fun _ => Iff.rfl⟩, hf.setCell (.inl hFl) _, ?_⟩
  · have := heap_set_eq (i := 0) (u := v') hb
    simpa using this
  · rintro k (rfl | hk)
    · exact .inl hFl
    · exact (hv k hk).2
/-- how an append into its row is closed -/
theorem app (h : Hold T E R l xs w F) {vo : Option Addr} {cap : Nat} (hc : w.cell? ⟨l, 0, none⟩ = some (.slice vo xs.length cap)) {w1 : World} (hf : Fr noBlock w w1) {n2 gg cap2 : Nat} (hn2 : n2 = ys.length)
    (hg2 : w1.grownBy w2 (Value.slice vo xs.length cap).ownBlock) {cs : List Value} (hx : cs = R.flat ys)
    (hown : w2.ownsRow 0 E R.k (.slice (some ⟨gg, 0, none⟩) n2 cap2) n2 cs) (hat : (Value.slice vo xs.length cap).ownBlock = some gg ∨ gg = w1.heap.size) :
    ∃ F', Hold T E R l ys (w2.setCell ⟨l, 0, none⟩ (.slice (some ⟨gg, 0, none⟩) n2 cap2)) F' ∧ Step F F' w (w2.setCell ⟨l, 0, none⟩ (.slice (some ⟨gg, 0, none⟩) n2 cap2)) := by
  subst hx hn2
  have hFl := h.own
  have h' := h
  obtain ⟨v, h1, h2, h3, h4⟩ := h
  obtain rfl : v = .slice vo xs.length cap := by
    have := cell_of h1 0
    rw [hc] at this
    simpa using this.symm
  have hs := hf.size
  have hlt := heap_lt h1
  have hF2 : Fr F w w2 := (hf.mono (T := F) (fun _ x => x.elim)).grown hg2 (fun k hk => .inl ((h4 k).2 (.inr hk)))
  have hgl : gg ≠ l := by
    rcases hat with hat | hat
    · intro e; exact h3 (e ▸ hat)
    · omega
  have hl2 : w2.heap[l]? = w.heap[l]? := (hg2.block l (by omega) (fun e => h3 e.symm)).trans (hf.block l hlt (fun x => x))
  refine ⟨_, h'.replace hF2 hl2 hown ?_⟩
  intro g hg
  obtain rfl : gg = g := by simpa [Value.ownBlock] using hg
  exact ⟨hgl, hat.elim (fun h => .inl ((h4 _).2 (.inr h))) (fun h => .inr (by omega))⟩
/-- a cell of its row is written -/
theorem set (h : Hold T E R l xs w F) {g n cap i j : Nat} {u : Value} (hc : w.cell? ⟨l, 0, none⟩ = some (.slice (some ⟨g, 0, none⟩) n cap)) (hi : i < xs.length) (hj : j < R.k) (y : α) (hy : R.cells y = (R.cells xs[i]).set j u) :
    Hold T E R l (xs.set i y) (w.setCell ⟨g, i * R.k + j, none⟩ u) F ∧ Fr F w (w.setCell ⟨g, i * R.k + j, none⟩ u) := by
  obtain ⟨v, h1, h2, h3, h4⟩ := h
  obtain rfl : v = .slice (some ⟨g, 0, none⟩) n cap := by
    have := cell_of h1 0
    rw [hc] at this
    simpa using this.symm
  have hgl : g ≠ l := fun e => h3 (by rw [e]; rfl)
  exact ⟨⟨_, heap_set_ne h1 (fun e => hgl e.symm), h2.set hi hj y hy, h3, h4⟩, (Fr.refl F w).setCell (p := ⟨g, _, none⟩) (.inl ((h4 g).2 (.inr rfl))) _⟩
end Hold

/-- A ROW AS A THING: its footprint is its block. -/
def Row {α : Type} (E : TypeId) (R : Rec α) (v : Value) (xs : List α) : Thing := fun w F => RowAt E R w v xs ∧ ∀ k, F k ↔ v.ownBlock = some k
theorem Row.ok {α : Type} {E : TypeId} {R : Rec α} {v : Value} {xs : List α} : (Row E R v xs).Ok :=
  ⟨fun h k hk => h.1.lt k ((h.2 k).1 hk), fun h hf hs => ⟨h.1.fr hf (fun k hk => hs k ((h.2 k).2 hk)), h.2⟩⟩
end Go.Proofs.YthabllnhlhkejaaGreatDoor
