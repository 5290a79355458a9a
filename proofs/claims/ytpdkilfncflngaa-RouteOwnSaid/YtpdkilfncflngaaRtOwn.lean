/-
  RouteOwn: the plain law; the walk.
-/
import Derived.Test.YtpdkilfncflngaaRtLaw
import Derived.Laws.Concat
namespace Go.Proofs.Ytpdkilfncflngaa
open Go.RowKit

theorem putE_nil (p : ByteArray) (n : Int) : (putE [] p n = 0 ∧ mayR p n = true) ∨ (putE [] p n = 1 ∧ mayR p n = false) := by
  unfold putE
  cases h : mayR p n
  · right; simp
  · left; simp
theorem own_find {p s : ByteArray} {n : Int} (h : mayR p n = true) : findR [⟨p, n⟩] (p ++ s) = some n := by
  obtain ⟨hp, _, _⟩ := mayR_iff.1 h
  obtain ⟨_, h2, h3⟩ := preB_iff.1 hp
  have h0 : 0 < p.size := by
    rcases Nat.eq_zero_or_pos p.size with h0 | h0
    · rw [ByteArray.toList_eq] at h2
      have : p.data.toList = [] := List.eq_nil_of_length_eq_zero (by rw [Array.length_toList]; exact h0)
      rw [this] at h2; cases h2
    · exact h0
  unfold findR
  refine findN_some.2 ⟨p.size, h0, by rw [ByteArray.size_append]; omega, ?_, ?_⟩
  · have : headS (p ++ s) p.size = p := by
      unfold headS
      rw [ByteArray.extract_append_eq_left rfl]
    rw [this, lookR_cons, if_pos rfl]
  · intro m h1 h2
    rw [lookR_cons, if_neg, lookR_nil]
    intro e
    have := congrArg ByteArray.size e
    simp only at this
    unfold headS at this
    rw [ByteArray.size_extract] at this
    omega
theorem find_nil (s : ByteArray) : findR [] s = none := findN_none.2 (fun _ _ _ => lookR_nil _)

set_option maxRecDepth 100000 in
set_option maxHeartbeats 800000 in
theorem own_walk (p s : ByteArray) (n : Int) (w : World) (hp : p.size ≤ 140737488351232) (hs : s.size ≤ 140737488351232) :
    Calls Try.prog 3 #[.string p, .int .i64 n, .string s] w fun e w' => e = .returned (.bool true) ∧ Below w.heap.size w w' := by
  have hp' : p.size ≤ maxLen := by unfold maxLen; omega
  have hps : (p ++ s).size ≤ maxLen := by rw [ByteArray.size_append]; unfold maxLen; omega
  have Hp := Lib.hid hp'
  have Hps := Lib.hid hps
  have hadd := fun W => run_string_add_sum (P := Try.prog) W p s (by omega)
  clear hp hs hp' hps
  go_enter Try.func3, Try.ntmps3
  go_wp2_with fail
  refine (small_any _).mono ?_
  rintro e w0 ⟨rfl, f0⟩
  go_wp2_with fail
  refine (new_any _).mono ?_
  rintro e w1 ⟨l, F1, rfl, h1, f1, n1⟩
  have M1 := Lib.hid (Mine.new (f0.below (Nat.le_refl _) (fun _ h => h.elim)) f1 h1 n1)
  clear f0 f1 n1 h1
  go_wp2_with fail
  rcases putE_nil p n with ⟨h, hm⟩ | ⟨h, hm⟩
  · have hq : putR [] p n = [⟨p, n⟩] := by unfold putR; rw [if_pos h]; rfl
    have hf := own_find (s := s) hm
    have Hf := Lib.hid hf
    refine (put_any M1.out.it p n Hp.out h hq).mono ?_
    rintro e w2 ⟨F2, rfl, h2, s2⟩
    have M2 := Lib.hid (M1.out.step h2 s2)
    clear h2 s2 hm h hq hf
    go_wp2_with fail
    refine (find_any M2.out.it (p ++ s) Hps.out).mono ?_
    rintro e w3 ⟨rfl, f3⟩
    have M3 := Lib.hid (M2.out.fr TableAt.ok f3)
    clear f3
    rw [Hf.out, Option.getD_some, Option.isSome_some]
    go_wp2_with fail
    go_ret
    exact ⟨rfl, M3.out.below⟩
  · have hq : putR [] p n = [] := by unfold putR; rw [if_neg (by rw [h]; decide)]
    refine (put_any M1.out.it p n Hp.out h hq).mono ?_
    rintro e w2 ⟨F2, rfl, h2, s2⟩
    have M2 := Lib.hid (M1.out.step h2 s2)
    clear h2 s2 hm h hq
    go_wp2_with fail
    refine (find_any M2.out.it (p ++ s) Hps.out).mono ?_
    rintro e w3 ⟨rfl, f3⟩
    have M3 := Lib.hid (M2.out.fr TableAt.ok f3)
    clear f3
    rw [find_nil, Option.getD_none, Option.isSome_none]
    go_wp2_with fail
    go_ret
    exact ⟨rfl, M3.out.below⟩
end Go.Proofs.Ytpdkilfncflngaa
