/-
  THE WALKS of slices.Clone at posts, ledger.List.
-/
import Derived.Test.YtfmcfkfhmncaiaaLgRev
namespace Go.Proofs.Ytfmcfkfhmncaiaa
open Go.RowKit

/-- a row of posts: a slice that reads so, and whose own block, if there is one, is 'g' -/
def PostsAt (w : World) (v : Value) (ps : List Post) : Prop := w.ownsRow 0 34 4 v ps.length (ps.flatMap Post.cells)

set_option maxHeartbeats 400000 in
theorem clone_any (v : Value) (ps : List Post) (w : World) (h : PostsAt w v ps) (hlen : ps.length ≤ 100000) :
    Calls Try.prog 27 #[v] w fun e w' => ∃ v', e = .returned v' ∧ PostsAt w' v' ps ∧ Fr noBlock w w' ∧ ∀ k, v'.ownBlock = some k → w.heap.size ≤ k := by
  obtain ⟨i0, hi0, hz0, hz1, hz2⟩ := info_parts info_post
  rcases h.2 with ⟨rfl, h0⟩ | ⟨g, cap, cur, rfl, _, hg, hcap, _⟩
  · have hps : ps = [] := List.eq_nil_of_length_eq_zero h0
    subst hps
    have he := fun w : World => Lib.run_eql_slice_nil (P := Try.prog) w 39 34 none 0 0 0 0 Try.underlying39
    go_enter Try.func27, Try.ntmps27
    go_wp2
    go_ret
    exact ⟨_, rfl, h, Fr.refl _ _, fun k hk => by simp [Value.ownBlock] at hk⟩
  · have he := fun w : World => Lib.run_eql_slice_nil (P := Try.prog) w 39 34 (some ⟨g, 0, none⟩) ps.length cap 0 0 Try.underlying39
    have hc := h.cells (g := g) rfl
    have hl := h.1
    have hgl := heap_lt hg
    have Hc := Lib.hid hc
    have Hl := Lib.hid hl
    have h1 : ∀ u ∈ ps.flatMap Post.cells, u.oneCell' = true := by
      intro u hu
      obtain ⟨p, _, hp⟩ := List.mem_flatMap.1 hu
      simp [Post.cells] at hp
      rcases hp with rfl | rfl | rfl | rfl <;> rfl
    have H1 := Lib.hid h1
    clear hc hl h1
    go_enter Try.func27, Try.ntmps27
    go_wp2_with (at_builtin; refine wpList_append_own_at (base := 0) (w := w.alloc (.cells #[] 34)) rfl _ _ _ rfl 34 i0 _ 4 48 Try.underlying39 hi0 hz0 hz1 hz2 rfl (by decide) _ 0 [] rfl ?c1 ⟨g, 0, none⟩ ps.length cap (ps.flatMap Post.cells) rfl ?c2 ?c3 ?c4 ?c5 ?c6 ?c7 ?_)
    case c1 => exact World.ownsRow_made w #[] 0 (Nat.zero_le _) (Nat.zero_le _) (by simp)
    case c2 => exact Hl.out
    case c3 => intro j u hu; exact (World.cell?_alloc_lt _ _ _ (by rw [Addr.add_lit]; exact hgl)).trans (Hc.out j u hu)
    case c4 => exact H1.out
    case c5 => unfold maxLen; omega
    case c6 => omega
    case c7 => exact Nat.zero_le _
    intro v' w1 hown hgrow _ hat
    have hF : Fr noBlock w w1 := ((Fr.refl noBlock w).alloc _).grown hgrow (by intro k hk; simp [Value.ownBlock] at hk; exact .inr (by omega))
    go_wp2
    go_ret
    refine ⟨v', rfl, hown, hF, fun k hk => ?_⟩
    rcases hat with hat | hat <;> (rw [hk] at hat; simp [Value.ownBlock] at hat; omega)

set_option maxHeartbeats 400000 in
theorem list_any (L : Led) (w : World) (h : L.At w) :
    Calls Try.prog 16 #[.pointer (some ⟨L.l, 0, none⟩)] w fun e w' => ∃ v', e = .returned v' ∧ PostsAt w' v' L.ps ∧ Fr noBlock w w' ∧ ∀ k, v'.ownBlock = some k → w.heap.size ≤ k := by
  have c0 := cell_of h.blk 0
  simp at c0
  have hg := h.good.len
  have hc := clone_any L.v L.ps w h.row (by omega)
  obtain ⟨ao, cap, hv⟩ := h.shape
  rw [hv] at c0 hc
  have Hc := Lib.hid hc
  clear hc hv h
  go_enter Try.func16, Try.ntmps16
  go_wp2_with (go_at_call 27; refine Hc.out.mono ?_; rintro e w' ⟨v', rfl, h1, h2, h3⟩)
  go_ret
  exact ⟨v', rfl, h1, h2, h3⟩
end Go.Proofs.Ytfmcfkfhmncaiaa
