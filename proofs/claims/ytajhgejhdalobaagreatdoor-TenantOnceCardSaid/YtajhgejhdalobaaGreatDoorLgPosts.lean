/-
  A ROW OF POSTS in memory.
-/
import Derived.Test.YtajhgejhdalobaaGreatDoorLgList
namespace Go.Proofs.YtajhgejhdalobaaGreatDoor.Lg
open Go.RowKit

theorem PostsAt.shape {w : World} {v : Value} {ps : List Post} (h : PostsAt w v ps) : ∃ (vo : Option Addr) (cap : Nat), v = .slice vo ps.length cap := by
  rcases h.2 with ⟨h1, h2⟩ | ⟨g, cap, cur, h1, _⟩
  · exact ⟨none, 0, by rw [h1, h2]⟩
  · exact ⟨_, cap, h1⟩
theorem PostsAt.post {w : World} {vo : Option Addr} {n cap : Nat} {ps : List Post} (h : PostsAt w (.slice vo n cap) ps) {k : Nat} (hk : k < ps.length) :
    ∃ g, vo = some ⟨g, 0, none⟩ ∧ g < w.heap.size ∧ n ≤ cap ∧ w.cell? ⟨g, k * 4, none⟩ = some (.string ps[k].key) ∧ w.cell? ⟨g, k * 4 + 1, none⟩ = some (.int .i64 ps[k].amount) ∧
      w.cell? ⟨g, k * 4 + 2, none⟩ = some (.int .i64 ps[k].state) ∧ w.cell? ⟨g, k * 4 + 3, none⟩ = some (.string ps[k].answer) := by
  rcases h.2 with ⟨_, h2⟩ | ⟨g, cap', cur, hv, _, hg, hcap, _⟩
  · omega
  · simp only [Value.slice.injEq] at hv
    obtain ⟨rfl, rfl, rfl⟩ := hv
    have hc := h.cells (g := g) rfl
    refine ⟨g, rfl, heap_lt hg, hcap, ?_, ?_, ?_, ?_⟩
    · have := hc (k * 4 + 0) _ ((flat_get hk (j := 0) (by omega)).trans rfl); rwa [Addr.add_lit, Nat.zero_add] at this
    · have := hc (k * 4 + 1) _ ((flat_get hk (j := 1) (by omega)).trans rfl); rwa [Addr.add_lit, Nat.zero_add] at this
    · have := hc (k * 4 + 2) _ ((flat_get hk (j := 2) (by omega)).trans rfl); rwa [Addr.add_lit, Nat.zero_add] at this
    · have := hc (k * 4 + 3) _ ((flat_get hk (j := 3) (by omega)).trans rfl); rwa [Addr.add_lit, Nat.zero_add] at this
theorem PostsAt.fr {w w' : World} {v : Value} {ps : List Post} {S : Nat → Prop} (h : PostsAt w v ps) (hf : Fr S w w') (hn : ∀ k, v.ownBlock = some k → ¬ S k) : PostsAt w' v ps := ownsRow_fr h hf hn

end Go.Proofs.YtajhgejhdalobaaGreatDoor.Lg
