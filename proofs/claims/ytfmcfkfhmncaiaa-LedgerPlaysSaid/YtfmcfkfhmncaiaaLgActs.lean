/-
  ACTS: what a law's row of acts holds.
-/
import Derived.Test.YtfmcfkfhmncaiaaLgSmall
import Derived.Deep.DeepCutAuto
import Derived.Deep.CutBlock
import Derived.Deep.LoopGhost
namespace Go.Proofs.Ytfmcfkfhmncaiaa
open Go.RowKit

structure Act where
  op : Int
  key : ByteArray
  answer : ByteArray
  amount : Int
def Act.val (a : Act) : Value := .agg #[.int .i64 a.op, .string a.key, .string a.answer, .int .i64 a.amount]

/-- the cells of an act -/
def ActAt (w : World) (b o : Nat) (a : Act) : Prop :=
  w.cell? ⟨b, o, none⟩ = some (.int .i64 a.op) ∧ w.cell? ⟨b, o + 1, none⟩ = some (.string a.key) ∧ w.cell? ⟨b, o + 2, none⟩ = some (.string a.answer) ∧ w.cell? ⟨b, o + 3, none⟩ = some (.int .i64 a.amount)

/-- a row of acts: at 'ao', as many as 'as' has -/
structure ActsAt (w : World) (ao : Option Addr) (xs : List Act) : Prop where
  len : xs.length ≤ maxLen
  at' : ∀ (i : Nat) (h : i < xs.length), ∃ b off, ao = some ⟨b, off, none⟩ ∧ b < w.heap.size ∧ ActAt w b (off + i * 4) xs[i] ∧ xs[i].key.size ≤ maxLen

theorem ActsAt.blk {w : World} {b off : Nat} {xs : List Act} (h : ActsAt w (some ⟨b, off, none⟩) xs) {k : Nat} (hk : k < xs.length) : b < w.heap.size := by
  obtain ⟨b', off', e, hb, _⟩ := h.at' k hk
  simp only [Option.some.injEq, Addr.mk.injEq, and_true] at e
  omega
theorem ActsAt.below {w w' : World} {ao : Option Addr} {xs : List Act} (h : ActsAt w ao xs) (hb : Below w.heap.size w w') : ActsAt w' ao xs := by
  refine ⟨h.len, fun i hi => ?_⟩
  obtain ⟨b, off, h1, h2, ⟨c0, c1, c2, c3⟩, h3⟩ := h.at' i hi
  have hs := hb.size
  exact ⟨b, off, h1, by omega, ⟨(hb.cell (p := ⟨b, _, none⟩) h2).trans c0, (hb.cell (p := ⟨b, _, none⟩) h2).trans c1, (hb.cell (p := ⟨b, _, none⟩) h2).trans c2, (hb.cell (p := ⟨b, _, none⟩) h2).trans c3⟩, h3⟩
end Go.Proofs.Ytfmcfkfhmncaiaa
