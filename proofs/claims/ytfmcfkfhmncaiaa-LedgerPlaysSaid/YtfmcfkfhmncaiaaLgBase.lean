/-
  LEDGER: what a ledger is in memory ('Led.At'), and what its methods reckon (plain).
-/
import Derived.Test.YtfmcfkfhmncaiaaBase
namespace Go.Proofs.Ytfmcfkfhmncaiaa
open Go.RowKit

structure Post where
  key : ByteArray
  amount : Int
  state : Int
  answer : ByteArray

def Post.cells (p : Post) : List Value := [.string p.key, .int .i64 p.amount, .int .i64 p.state, .string p.answer]
def Post.val (p : Post) : Value := .agg #[.string p.key, .int .i64 p.amount, .int .i64 p.state, .string p.answer]
def Post.may (p : Post) : Bool :=
  !p.key.toList.isEmpty && decide (p.key.size ≤ 40) && decide (0 ≤ p.amount) && decide (p.amount ≤ 999999999999) && decide (p.answer.size ≤ 256) && (p.state == 1 || p.state == 2)
def Post.counts (p : Post) : Int := if p.state = 1 then p.amount else 0

def sumA (ps : List Post) : Int := (ps.map Post.counts).sum
def posOf (ps : List Post) (s : ByteArray) : Option Int := (ps.findIdx? (fun p => decide (p.key = s))).map Int.ofNat

structure Good (ps : List Post) : Prop where
  may : ∀ p ∈ ps, p.may = true
  keys : (ps.map Post.key).Nodup
  len : ps.length ≤ 24
  total : sumA ps ≤ 5000000000000

def addE (ps : List Post) (p : Post) : Int :=
  if p.may = false then 1 else if (posOf ps p.key).isSome then 16 else if 24 ≤ ps.length then 14 else if 5000000000000 - sumA ps < p.counts then 19 else 0
def addL (ps : List Post) (p : Post) : List Post := if addE ps p = 0 then ps ++ [p] else ps

/-- A ledger: its own block, its map's, its row, its posts. -/
structure Led where
  l : Nat
  bm : Nat
  v : Value
  ps : List Post

def Led.foot (L : Led) (k : Nat) : Prop := k = L.l ∨ k = L.bm ∨ L.v.ownBlock = some k

structure Led.At (L : Led) (w : World) : Prop where
  blk : w.heap[L.l]? = some (.cells #[L.v, .map (some L.bm), .int .i64 (sumA L.ps)] 55 (0, 0))
  row : w.ownsRow 0 34 4 L.v L.ps.length (L.ps.flatMap Post.cells)
  map : MapIs Try.prog 9 3 w L.bm L.ps.length (posOf L.ps)
  d1 : L.l ≠ L.bm
  d2 : L.v.ownBlock ≠ some L.l
  d3 : L.v.ownBlock ≠ some L.bm
  good : Good L.ps

theorem Led.At.foot_lt {L : Led} {w : World} (h : L.At w) {k : Nat} (hk : L.foot k) : k < w.heap.size := by
  rcases hk with rfl | rfl | hk
  · exact heap_lt h.blk
  · exact h.map.lt
  · exact (h.row.lt k hk).2

/-- A ledger stands while other blocks are turned. -/
theorem Led.At.fr {L : Led} {S : Nat → Prop} {w w' : World} (h : L.At w) (hf : Fr S w w') (hs : ∀ k, L.foot k → ¬ S k) : L.At w' :=
  ⟨hf.obj h.blk (hs _ (.inl rfl)), ownsRow_fr h.row hf (fun k hk => hs k (.inr (.inr hk))), h.map.fr hf (hs _ (.inr (.inl rfl))), h.d1, h.d2, h.d3, h.good⟩

theorem counts_nonneg {p : Post} (h : p.may = true) : 0 ≤ p.counts ∧ p.counts ≤ 999999999999 := by
  simp only [Post.may, Bool.and_eq_true, decide_eq_true_eq] at h
  unfold Post.counts
  split <;> omega
theorem sumA_nonneg : ∀ {ps : List Post}, (∀ p ∈ ps, p.may = true) → 0 ≤ sumA ps
  | [], _ => by simp [sumA]
  | p :: ps, h => by
    have h1 := sumA_nonneg (ps := ps) (fun q hq => h q (List.mem_cons_of_mem _ hq))
    have h2 := (counts_nonneg (h p List.mem_cons_self)).1
    simp only [sumA, List.map_cons, List.sum_cons] at h1 ⊢
    omega
theorem sumA_append (a b : List Post) : sumA (a ++ b) = sumA a + sumA b := by simp [sumA]
theorem posOf_some {ps : List Post} {s : ByteArray} {x : Int} (h : posOf ps s = some x) : ∃ (k : Nat) (hk : k < ps.length), x = k ∧ ps[k].key = s := by
  unfold posOf at h
  rw [Option.map_eq_some_iff] at h
  obtain ⟨k, hk, rfl⟩ := h
  rw [List.findIdx?_eq_some_iff_getElem] at hk
  obtain ⟨hlt, h1, _⟩ := hk
  exact ⟨k, hlt, rfl, by simpa using h1⟩
theorem posOf_none {ps : List Post} {s : ByteArray} : posOf ps s = none ↔ ∀ p ∈ ps, p.key ≠ s := by
  unfold posOf
  simp
theorem posOf_snoc (ps : List Post) (p : Post) (hp : posOf ps p.key = none) (s : ByteArray) : posOf (ps ++ [p]) s = if s = p.key then some (ps.length : Int) else posOf ps s := by
  unfold posOf at *
  rw [List.findIdx?_append]
  by_cases h : s = p.key
  · subst h
    simp only [Option.map_eq_none_iff] at hp
    simp [hp]
  · have h' : ¬ p.key = s := fun e => h e.symm
    rw [if_neg h]
    cases hf : List.findIdx? (fun p => decide (p.key = s)) ps <;> simp [h']

theorem good_snoc {ps : List Post} {p : Post} (h : Good ps) (he : addE ps p = 0) : Good (ps ++ [p]) := by
  unfold addE at he
  by_cases h1 : p.may = false
  · simp [h1] at he
  rw [if_neg h1] at he
  by_cases h2 : (posOf ps p.key).isSome
  · simp [h2] at he
  rw [if_neg h2] at he
  by_cases h3 : 24 ≤ ps.length
  · simp [h3] at he
  rw [if_neg h3] at he
  by_cases h4 : 5000000000000 - sumA ps < p.counts
  · simp [h4] at he
  refine ⟨?_, ?_, by simp; omega, ?_⟩
  · intro q hq
    rcases List.mem_append.1 hq with hq | hq
    · exact h.may q hq
    · simp at hq; subst hq; simpa using h1
  · have hn : posOf ps p.key = none := by simpa using h2
    rw [posOf_none] at hn
    rw [List.map_append, List.nodup_append]
    refine ⟨h.keys, by simp, ?_⟩
    intro a ha b hb
    simp at hb
    subst hb
    obtain ⟨q, hq, rfl⟩ := List.mem_map.1 ha
    exact hn q hq
  · rw [sumA_append]
    simp only [sumA, List.map_cons, List.map_nil, List.sum_cons, List.sum_nil]
    simp only [sumA] at h4
    omega
end Go.Proofs.Ytfmcfkfhmncaiaa
