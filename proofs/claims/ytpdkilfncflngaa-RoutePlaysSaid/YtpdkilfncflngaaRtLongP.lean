/-
  RouteLongest: the plain law.
-/
import Derived.Test.YtpdkilfncflngaaRtLaw
namespace Go.Proofs.Ytpdkilfncflngaa
open Go.RowKit

def bestL (s : ByteArray) (rs : List Route) : ByteArray := rs.foldl (fun b r => if begB s r.pre && decide (b.size < r.pre.size) then r.pre else b) .empty
theorem bestL_snoc (s : ByteArray) (rs : List Route) (r : Route) : bestL s (rs ++ [r]) = if begB s r.pre && decide ((bestL s rs).size < r.pre.size) then r.pre else bestL s rs := by
  unfold bestL; rw [List.foldl_append]; rfl
theorem bestL_ok (s : ByteArray) (rs : List Route) : (bestL s rs = .empty ∨ ∃ r ∈ rs, r.pre = bestL s rs ∧ begB s (bestL s rs) = true) ∧ ∀ r ∈ rs, begB s r.pre = true → r.pre.size ≤ (bestL s rs).size := by
  obtain ⟨n, hn⟩ : ∃ n, n = rs.length := ⟨_, rfl⟩
  induction n generalizing rs with
  | zero =>
    have : rs = [] := List.eq_nil_of_length_eq_zero hn.symm
    subst this
    exact ⟨.inl rfl, by simp⟩
  | succ n ih0 =>
    obtain ⟨qs, r, rfl⟩ : ∃ qs r, rs = qs ++ [r] := ⟨rs.dropLast, rs.getLast (by intro e; subst e; simp at hn), (List.dropLast_concat_getLast _).symm⟩
    have ih := ih0 qs (by simp at hn; omega)
    clear ih0 hn
    revert ih
    generalize qs = rs
    intro ih
    rw [bestL_snoc]
    by_cases h : (begB s r.pre && decide ((bestL s rs).size < r.pre.size)) = true
    · rw [if_pos h]
      simp only [Bool.and_eq_true, decide_eq_true_eq] at h
      refine ⟨.inr ⟨r, by simp, rfl, h.1⟩, ?_⟩
      intro q hq hb
      rcases List.mem_append.1 hq with hq | hq
      · have := ih.2 q hq hb; omega
      · have : q = r := by simpa using hq
        subst this; exact Nat.le_refl _
    · rw [if_neg h]
      refine ⟨?_, ?_⟩
      · rcases ih.1 with h1 | ⟨q, hq, h1, h2⟩
        · exact .inl h1
        · exact .inr ⟨q, List.mem_append_left _ hq, h1, h2⟩
      · intro q hq hb
        rcases List.mem_append.1 hq with hq | hq
        · exact ih.2 q hq hb
        · have : q = r := by simpa using hq
          subst this
          simp only [Bool.and_eq_true, decide_eq_true_eq] at h
          have := Classical.not_and_iff_not_or_not.1 h
          rcases this with h1 | h1
          · exact absurd hb h1
          · omega
theorem begB_iff {s p : ByteArray} : begB s p = true ↔ p.size ≤ s.size ∧ headS s p.size = p := by simp [begB]
theorem size_pos {p : ByteArray} (h : p ≠ .empty) : 0 < p.size := by
  rcases Nat.eq_zero_or_pos p.size with h0 | h0
  · exfalso; apply h
    apply toList_inj'
    rw [ByteArray.toList_eq, ByteArray.toList_eq]
    have : p.data.toList = [] := List.eq_nil_of_length_eq_zero (by rw [Array.length_toList]; exact h0)
    rw [this]; rfl
  · exact h0
theorem headS_sz {s : ByteArray} {n : Nat} (h : n ≤ s.size) : (headS s n).size = n := by
  unfold headS; rw [ByteArray.size_extract]; omega
theorem look_head {rs : List Route} {s : ByteArray} {n : Nat} (hn : n ≤ s.size) (h : lookR rs (headS s n) ≠ none) : n ≤ (bestL s rs).size := by
  cases hl : lookR rs (headS s n) with
  | none => exact absurd hl h
  | some t =>
    obtain ⟨r, hr, hp, _⟩ := lookR_mem hl
    have hsz := headS_sz hn
    have := (bestL_ok s rs).2 r hr (begB_iff.2 (by rw [hp, hsz]; exact ⟨hn, rfl⟩))
    rw [hp, hsz] at this
    exact this
theorem best_some {rs : List Route} {s : ByteArray} (hg : GoodR rs) {r : Route} (hr : r ∈ rs) (he : r.pre = bestL s rs) (h0 : bestL s rs ≠ .empty) : findR rs s = some r.target := by
  have hb : begB s (bestL s rs) = true := by
    rcases (bestL_ok s rs).1 with h | ⟨_, _, _, h⟩
    · exact absurd h h0
    · exact h
  obtain ⟨h1, h2⟩ := begB_iff.1 hb
  have h8 := (preB_iff.1 (hg.pre r hr)).2.2
  rw [he] at h8
  refine findN_some.2 ⟨(bestL s rs).size, size_pos h0, by omega, ?_, ?_⟩
  · rw [h2, ← he]; exact lookR_of_mem hg.sorted hr
  · intro m hm1 hm2
    apply Classical.byContradiction
    intro hc
    have := look_head (rs := rs) (s := s) (n := m) (by omega) hc
    omega
theorem best_none {rs : List Route} {s : ByteArray} (h : bestL s rs = .empty) : findR rs s = none := by
  refine findN_none.2 fun n hn1 hn2 => ?_
  apply Classical.byContradiction
  intro hc
  have := look_head (rs := rs) (s := s) (n := n) (by omega) hc
  rw [h] at this
  have h0 : (ByteArray.empty).size = 0 := rfl
  omega
end Go.Proofs.Ytpdkilfncflngaa
