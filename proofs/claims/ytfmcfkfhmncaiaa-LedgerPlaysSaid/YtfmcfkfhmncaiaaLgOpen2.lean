/-
  A ROW OF POSTS THAT CAME IN, opened.
-/
import Derived.Test.YtfmcfkfhmncaiaaOpen
import Derived.Test.YtfmcfkfhmncaiaaLgRd
import Derived.SizedLaws
namespace Go.Proofs.Ytfmcfkfhmncaiaa
open Go.RowKit
open Go.ChangeShapes Go.WideShapes Go.Deep

theorem open_posts {H : Type} {enc : TypeId × Value → H} {W : World} {base : Nat} {r : Reach} {v : Value} {d : DataW H} {p : List MemPlace} (hv : Value.okWide Try.prog W r base 39 v) (h : DataW.Trod enc Try.prog W 0 (fun _ => true) true 39 v d p) :
    ∃ (ao : Option Addr) (cap : Nat) (ps : List Post), v = .slice ao ps.length cap ∧ PostsRd W ao ps ∧ (ao = none → ps = [] ∧ cap = 0) ∧ (ps = [] ∨ ∃ elems spare, d = .slice elems spare ∧ elems.length = ps.length) := by
  obtain ⟨a0, len0, cap0, rfl⟩ := okWide_slice Try.underlying39 hv
  obtain ⟨fuel, hf⟩ := h
  rcases open_slice_fields Try.underlying39 Try.underlying34 (by kernel_rfl) (by kernel_rfl) hf with ⟨hcs, _⟩ | ⟨a, len, cap, m, D, Pl, hcs, _, hl, hm, hmm, hx, hi⟩
  · simp [Value.cells] at hcs
    obtain ⟨rfl, rfl, rfl⟩ := hcs
    exact ⟨none, 0, [], rfl, ⟨Nat.zero_le _, fun i hi => by simp at hi⟩, fun _ => ⟨rfl, rfl⟩, .inl rfl⟩
  · simp [Value.cells] at hcs
    obtain ⟨rfl, rfl, rfl⟩ := hcs
    have hlm : len0 ≤ m := by rw [hmm]; split <;> omega
    have each : ∀ i, i < len0 → ∃ x : Post, ∃ b off, some a = some ⟨b, off, none⟩ ∧ b < W.heap.size ∧ PostAt W b (off + i * 4) x ∧ x.key.size ≤ maxLen := by
      intro i hil
      obtain ⟨ys, n, _, _, hyl, hfld⟩ := hi i (by omega)
      obtain ⟨v0, y0, c0, _, t0⟩ := hfld 0 _ rfl
      obtain ⟨v1, y1, c1, _, t1⟩ := hfld 1 _ rfl
      obtain ⟨v2, y2, c2, _, t2⟩ := hfld 2 _ rfl
      obtain ⟨v3, y3, c3, _, t3⟩ := hfld 3 _ rfl
      obtain ⟨s0, e0, _, w0⟩ := DataW.trod_string Try.underlying9 t0
      obtain ⟨n1, e1, _, _⟩ := DataW.trod_int Try.underlying3 t1
      obtain ⟨n2, e2, _, _⟩ := DataW.trod_int Try.underlying3 t2
      obtain ⟨s3, e3, _, _⟩ := DataW.trod_string Try.underlying9 t3
      simp only [List.cons.injEq, and_true] at e0 e1 e2 e3
      subst e0 e1 e2 e3
      obtain ⟨ys', n', _, _, _, hfld'⟩ := hi 0 (by omega)
      obtain ⟨v0', _, c0', _⟩ := hfld' 0 _ rfl
      have hsp : a.spot = none := by
        have := cell_spot c0'
        simpa [Addr.add] using this
      obtain ⟨b, off, sp⟩ := a
      simp only at hsp
      subst hsp
      have hb := World.block_lt_of_cell? W _ c1
      rw [add_to] at c0 c1 c2 c3 hb
      exact ⟨⟨s0, n1, n2, s3⟩, b, off, rfl, hb, ⟨c0, c1, c2, c3⟩, w0⟩
    have : Inhabited Post := ⟨zeroPost⟩
    obtain ⟨f, hf'⟩ := choose_lt each
    refine ⟨some a, cap0, (List.range len0).map f, by simp, ⟨by simp; omega, fun i hi' => ?_⟩, (fun h => by cases h), .inr ⟨_, _, (Prod.mk.inj hx).1, by simp⟩⟩
    have hil : i < len0 := by simpa using hi'
    obtain ⟨b, off, g1, g2, g3, g4⟩ := hf' i hil
    exact ⟨b, off, g1, g2, by simpa using g3, by simpa using g4⟩
end Go.Proofs.Ytfmcfkfhmncaiaa
