/-
  THE WALKS of ledger.may, New, Total, Close.
-/
import Derived.Test.YtfmcfkfhmncaiaaLgBase
import Derived.Lib.Hide
namespace Go.Proofs.Ytfmcfkfhmncaiaa
open Go.RowKit

set_option maxHeartbeats 400000 in
theorem may_any (p : Post) (w : World) :
    Calls Try.prog 31 #[p.val] w fun e w' => e = .returned (.bool p.may) ∧ w' = w.alloc (.cells #[.string p.key, .int .i64 p.amount, .int .i64 p.state, .string p.answer] 34) := by
  obtain ⟨key, amount, state, answer⟩ := p
  unfold Post.val
  go_enter Try.func31, Try.ntmps31
  go_wp2
  all_goals go_ret
  all_goals (try subst_vars)
  all_goals refine ⟨congrArg (fun b => Ending.returned (.bool b)) ((?_ : Post.may _ = _).symm), rfl⟩
  all_goals first
    | (simp [Post.may]; first | done | omega | (refine ⟨⟨⟨⟨⟨?_, ?_⟩, ?_⟩, ?_⟩, ?_⟩, ?_⟩ <;> first | assumption | omega))
    | (refine Bool.eq_false_iff.2 fun hm => ?_; simp [Post.may] at hm; first | omega | (obtain ⟨⟨⟨⟨⟨h0, _⟩, _⟩, _⟩, _⟩, _⟩ := hm; exact h0 ‹_›))
    | (have h1 : key.size ≤ 40 := by omega
       have h2 : answer.size ≤ 256 := by omega
       simp [Post.may, *])

set_option maxHeartbeats 400000 in
theorem new_any (w : World) :
    Calls Try.prog 9 #[] w fun e w' => ∃ L : Led, L.At w' ∧ e = .returned (.pointer (some ⟨L.l, 0, none⟩)) ∧ L.ps = [] ∧ Fr noBlock w w' ∧ ∀ k, L.foot k → w.heap.size ≤ k := by
  have hmm := @run_makeMap Try.prog
  go_enter Try.func9, Try.ntmps9
  go_wp2
  go_ret
  refine ⟨⟨w.heap.size + 1, w.heap.size, .slice none 0 0, []⟩, ⟨?_, World.ownsRow_nil _ _ _ _, ?_, by simp, by simp [Value.ownBlock], by simp [Value.ownBlock], ⟨by simp, by simp, by simp, by simp [sumA]⟩⟩, by simp, rfl, ?_, ?_⟩
  · show ((w.alloc (.map #[] 0)).alloc _).heap[w.heap.size + 1]? = _
    have := heap_new (w.alloc (.map #[] 0)) (.cells #[.slice none 0 0, .map (some w.heap.size), .int .i64 0] 55)
    simpa [sumA] using this
  · exact ((MapIs.made Try.prog 9 3 w).fr ((Fr.refl noBlock _).alloc _) (fun h => h)).congr (fun s => by simp [posOf])
  · exact ((Fr.refl _ _).alloc _).alloc _
  · rintro k (rfl | rfl | h)
    · exact Nat.le_succ _
    · exact Nat.le_refl _
    · simp [Value.ownBlock] at h

set_option maxHeartbeats 400000 in
theorem total_any (L : Led) (w : World) (h : L.At w) :
    Calls Try.prog 14 #[.pointer (some ⟨L.l, 0, none⟩)] w fun e w' => e = .returned (.int .i64 (sumA L.ps)) ∧ w' = w := by
  have c2 := cell_of h.blk 2
  simp at c2
  go_enter Try.func14, Try.ntmps14
  go_wp2
  go_ret
  exact ⟨rfl, rfl⟩

theorem clear_led (L : Led) (w : World) (h : L.At w) : ∃ w', (∀ ty, (Builtin.clear_ #[53] ty #[.map (some L.bm)]).run Try.prog w = .ok (.tuple #[]) w') ∧ MapIs Try.prog 9 3 w' L.bm 0 (fun _ => none) ∧ w.mapTurned w' L.bm := by
  obtain ⟨w', h1, h2, h3⟩ := h.map.clear (mt := 53) Try.underlying53 0
  exact ⟨w', fun ty => h1, h2, h3⟩

set_option maxHeartbeats 400000 in
theorem close_any (L : Led) (w : World) (h : L.At w) :
    Calls Try.prog 12 #[.pointer (some ⟨L.l, 0, none⟩)] w fun e w' => ∃ L' : Led, L'.At w' ∧ L'.l = L.l ∧ L'.ps = [] ∧ e = .returned (.int .i64 (sumA L.ps)) ∧ Fr L.foot w w' ∧ ∀ k, L'.foot k → L.foot k ∨ w.heap.size ≤ k := by
  obtain ⟨w1, hcl, hmap, ht⟩ := clear_led L w h
  have hg := ht.grown
  have hf : Fr L.foot w w1 := (Fr.refl _ _).grown hg (by intro k hk; cases hk; exact .inl (.inr (.inl rfl)))
  have hb1 : w1.heap[L.l]? = _ := (hg.block L.l (heap_lt h.blk) (by have := h.d1; simpa using this)).trans h.blk
  have c1 := cell_of h.blk 1
  have c2 := cell_of h.blk 2
  simp at c1 c2
  have e0 := cell_of hb1 0
  have e2 := cell_of hb1 2
  simp at e0 e2
  have f0 := free_of hb1 0
  have f2 := free_of hb1 2
  have Hb := Lib.hid hb1
  have Hf := Lib.hid hf
  clear hb1 hf hg ht
  go_enter Try.func12, Try.ntmps12
  go_wp2
  go_ret
  refine ⟨⟨L.l, L.bm, .slice none 0 0, []⟩, ⟨?_, World.ownsRow_nil _ _ _ _, ?_, h.d1, by simp [Value.ownBlock], by simp [Value.ownBlock], ⟨by simp, by simp, by simp, by simp [sumA]⟩⟩, rfl, rfl, rfl, ?_, ?_⟩
  · have := heap_set_eq (i := 2) (u := .int .i64 0) (heap_set_eq (i := 0) (u := .slice none 0 0) Hb.out)
    simpa [sumA] using this
  · refine (hmap.fr (((Fr.refl (fun k => k = L.l) _).setCell (.inl rfl) _).setCell (.inl rfl) _) (fun h' => h.d1 h'.symm)).congr (fun s => by simp [posOf])
  · exact (Hf.out.setCell (.inl (.inl rfl)) _).setCell (.inl (.inl rfl)) _
  · rintro k (rfl | rfl | h')
    · exact .inl (.inl rfl)
    · exact .inl (.inr (.inl rfl))
    · simp [Value.ownBlock] at h'
end Go.Proofs.Ytfmcfkfhmncaiaa
