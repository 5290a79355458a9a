/-
  TABLES in memory: the program's (a map), the document's (a row of routes).
-/
import Derived.Test.YtpdkilfncflngaaDgWalk
import Derived.Test.YtpdkilfncflngaaMapN
import Derived.Test.YtpdkilfncflngaaThing2
namespace Go.Proofs.Ytpdkilfncflngaa
open Go.RowKit

structure GoodR (rs : List Route) : Prop where
  sorted : Sorted rs
  len : rs.length ≤ 24
  pre : ∀ r ∈ rs, preB r.pre = true
  tgt : ∀ r ∈ rs, 1 ≤ r.target ∧ r.target ≤ 99

def mayR (s : ByteArray) (t : Int) : Bool := preB s && decide (1 ≤ t) && decide (t ≤ 99)
def putE (rs : List Route) (s : ByteArray) (t : Int) : Int := if mayR s t = false then 1 else if (lookR rs s).isSome = false ∧ 24 ≤ rs.length then 14 else 0
def putR (rs : List Route) (s : ByteArray) (t : Int) : List Route := if putE rs s t = 0 then putL rs s t else rs
def dropE (rs : List Route) (s : ByteArray) : Int := if (lookR rs s).isSome then 0 else 15
def dropR (rs : List Route) (s : ByteArray) : List Route := if (lookR rs s).isSome then dropL rs s else rs

theorem putE_zero {rs : List Route} {s : ByteArray} {t : Int} (h : putE rs s t = 0) : mayR s t = true ∧ ((lookR rs s).isSome = true ∨ rs.length < 24) := by
  unfold putE at h
  split at h
  · simp at h
  · rename_i h1
    split at h
    · simp at h
    · rename_i h2
      refine ⟨by simpa using h1, ?_⟩
      cases hl : (lookR rs s).isSome with
      | true => exact .inl rfl
      | false => exact .inr (Decidable.byContradiction fun hn => h2 ⟨hl, by omega⟩)
theorem mayR_iff {s : ByteArray} {t : Int} : mayR s t = true ↔ preB s = true ∧ 1 ≤ t ∧ t ≤ 99 := by simp [mayR, and_assoc]
theorem GoodR.nil : GoodR [] := ⟨List.Pairwise.nil, by simp, by simp, by simp⟩
theorem GoodR.put {rs : List Route} (h : GoodR rs) (s : ByteArray) (t : Int) : GoodR (putR rs s t) := by
  unfold putR
  split
  · rename_i h0
    obtain ⟨h1, h2⟩ := putE_zero h0
    obtain ⟨hp, ht0, ht1⟩ := mayR_iff.1 h1
    refine ⟨putL_sorted h.sorted s t, ?_, ?_, ?_⟩
    · rw [putL_len h.sorted]
      have := h.len
      rcases h2 with h2 | h2
      · rw [if_pos h2]; omega
      · split <;> omega
    · intro r hr
      rcases putL_mem hr with hr | rfl
      · exact h.pre r hr
      · exact hp
    · intro r hr
      rcases putL_mem hr with hr | rfl
      · exact h.tgt r hr
      · exact ⟨ht0, ht1⟩
  · exact h
theorem GoodR.drop {rs : List Route} (h : GoodR rs) (s : ByteArray) : GoodR (dropR rs s) := by
  unfold dropR
  split
  · refine ⟨dropL_sorted h.sorted s, ?_, ?_, ?_⟩
    · have := h.len
      have h2 := List.length_filter_le (fun r : Route => decide (r.pre ≠ s)) rs
      unfold dropL; omega
    · intro r hr
      exact h.pre r ((List.mem_filter.1 hr).1)
    · intro r hr
      exact h.tgt r ((List.mem_filter.1 hr).1)
  · exact h

/-- the program's table -/
def TableAt (l : Nat) (rs : List Route) : Thing := fun w F =>
  ∃ bm, w.heap[l]? = some (.cells #[.map (some bm)] 50 (0, 0)) ∧ MapAt Try.prog 9 3 w bm (lookR rs) rs.length ∧ l ≠ bm ∧ (∀ k, F k ↔ k = l ∨ k = bm) ∧ GoodR rs
theorem TableAt.ok {l : Nat} {rs : List Route} : (TableAt l rs).Ok := by
  refine ⟨?_, ?_⟩
  · rintro w F ⟨bm, h1, h2, _, h4, _⟩ k hk
    rcases (h4 k).1 hk with rfl | rfl
    · exact heap_lt h1
    · exact h2.lt
  · rintro w w' F S ⟨bm, h1, h2, h3, h4, h5⟩ hf hs
    exact ⟨bm, hf.obj h1 (hs _ ((h4 _).2 (.inl rfl))), h2.fr hf (hs _ ((h4 _).2 (.inr rfl))), h3, h4, h5⟩
def RTableAt (l : Nat) (rs : List Route) : Thing := fun w F => Hold 53 42 RouteR l rs w F ∧ GoodR rs
theorem RTableAt.ok {l : Nat} {rs : List Route} : (RTableAt l rs).Ok := ⟨fun h => Hold.ok.lt h.1, fun h hf hs => ⟨Hold.ok.fr h.1 hf hs, h.2⟩⟩

theorem zero_int (w : World) : (zeroValue 3).run Try.prog w = .ok (.int .i64 0) w := by kernel_rfl
theorem pre_len {s : ByteArray} (h : preB s = true) : s.size ≤ maxLen := by
  have := (preB_iff.1 h).2.2
  unfold maxLen; omega
end Go.Proofs.Ytpdkilfncflngaa
