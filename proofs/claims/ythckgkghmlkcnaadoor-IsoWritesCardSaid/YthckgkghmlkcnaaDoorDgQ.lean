/-
  PACKING, DIGIT BY DIGIT (plain).
-/
import Derived.Test.YthckgkghmlkcnaaDoorDgP
namespace Go.Proofs.YthckgkghmlkcnaaDoor

theorem pairsB_get : ∀ (l : Bs) (j : Nat) (h : 2 * j + 1 < l.length), (pairsB l)[j]? = some (UInt8.ofNat ((l[2 * j].toNat - 48) * 16 + (l[2 * j + 1].toNat - 48)))
  | [], j, h => by simp at h
  | [a], j, h => by simp at h
  | a :: b :: r, 0, h => by simp [pairsB]
  | a :: b :: r, j + 1, h => by
    have ih := pairsB_get r j (by simp at h; omega)
    rw [pairsB, List.getElem?_cons_succ, ih]
    simp only [show 2 * (j + 1) = 2 * j + 1 + 1 by omega, List.getElem_cons_succ]
theorem pairsB_set {l : Bs} {m : Nat} (hl : l.length = 2 * m) {i : Nat} (hi : i < 2 * m) (x : UInt8) {c : UInt8} (hc : c = UInt8.ofNat (((if i % 2 = 0 then x else l.getD (2 * (i / 2)) 0).toNat - 48) * 16 + ((if i % 2 = 1 then x else l.getD (2 * (i / 2) + 1) 0).toNat - 48))) : pairsB (l.set i x) = (pairsB l).set (i / 2) c := by
  have h1 : (pairsB (l.set i x)).length = m := pairsB_len m _ (by simpa using hl)
  have h2 : (pairsB l).length = m := pairsB_len m _ hl
  apply List.ext_getElem?
  intro j
  by_cases hj : j < m
  · rw [pairsB_get (l.set i x) j (by simp; omega)]
    by_cases hji : j = i / 2
    · subst hji
      rw [List.getElem?_set_self (by omega), hc]
      congr 1
      congr 1
      simp only [List.getElem_set, List.getD_eq_getElem?_getD]
      rcases Nat.mod_two_eq_zero_or_one i with he | ho
      · rw [if_pos (by omega : i = 2 * (i / 2)), if_neg (by omega : ¬ i = 2 * (i / 2) + 1), if_pos he, if_neg (by omega : ¬ i % 2 = 1), List.getElem?_eq_getElem (by omega : 2 * (i / 2) + 1 < l.length)]
        rfl
      · rw [if_neg (by omega : ¬ i = 2 * (i / 2)), if_pos (by omega : i = 2 * (i / 2) + 1), if_neg (by omega : ¬ i % 2 = 0), if_pos ho, List.getElem?_eq_getElem (by omega : 2 * (i / 2) < l.length)]
        rfl
    · rw [List.getElem?_set_ne (fun e => hji e.symm), pairsB_get l j (by omega)]
      congr 1
      congr 1
      simp only [List.getElem_set]
      rw [if_neg (by omega : ¬ i = 2 * j), if_neg (by omega : ¬ i = 2 * j + 1)]
  · rw [List.getElem?_eq_none (by omega), List.getElem?_eq_none (by simp; omega)]
/-- what stands behind k digits -/
def partL (l : Bs) (i : Nat) : Bs := l.take i ++ List.replicate (l.length - i) 48
theorem partL_len (l : Bs) (i : Nat) (hi : i ≤ l.length) : (partL l i).length = l.length := by unfold partL; simp; omega
theorem partL_next {l : Bs} {i : Nat} (hi : i < l.length) : partL l (i + 1) = (partL l i).set i l[i] := by
  unfold partL
  have ht : (l.take i).length = i := by rw [List.length_take]; omega
  rw [List.set_append_right _ _ (by omega), ht, Nat.sub_self, show l.length - i = (l.length - (i + 1)) + 1 by omega, List.replicate_succ, List.set_cons_zero, List.take_succ_eq_append_getElem hi, List.append_assoc]
  rfl
theorem partL_all (l : Bs) : partL l l.length = l := by simp [partL]
theorem partL_get {l : Bs} {i j : Nat} (h1 : i ≤ j) (h2 : j < l.length) : (partL l i).getD j 0 = 48 := by
  unfold partL
  rw [List.getD_eq_getElem?_getD, List.getElem?_append_right (by simp; omega)]
  simp only [List.length_take, List.getElem?_replicate]
  rw [if_pos (by omega)]
  rfl
theorem partL_old {l : Bs} {i j : Nat} (h1 : j < i) (h2 : i ≤ l.length) : (partL l i).getD j 0 = l.getD j 0 := by
  unfold partL
  rw [List.getD_eq_getElem?_getD, List.getElem?_append_left (by simp; omega), List.getElem?_take, if_pos h1, ← List.getD_eq_getElem?_getD]
/-- one digit more: even place -/
theorem part_even {l : Bs} {m i : Nat} (hl : l.length = 2 * m) (hi : i < l.length) (he : i % 2 = 0) : pairsB (partL l (i + 1)) = (pairsB (partL l i)).set (i / 2) (UInt8.ofNat ((l[i].toNat - 48) * 16)) ∧ (pairsB (partL l i))[i / 2]? = some 0 := by
  have hlen := partL_len l i (by omega)
  constructor
  · rw [partL_next hi]
    refine pairsB_set (m := m) (by omega) (by omega) _ ?_
    rw [if_pos he, if_neg (by omega), partL_get (by omega) (by omega)]
    rfl
  · rw [pairsB_get _ _ (by omega)]
    have e1 : (partL l i)[2 * (i / 2)]'(by omega) = 48 := by
      have := partL_get (l := l) (i := i) (j := 2 * (i / 2)) (by omega) (by omega)
      rw [List.getD_eq_getElem?_getD, List.getElem?_eq_getElem (by omega)] at this
      exact this
    have e2 : (partL l i)[2 * (i / 2) + 1]'(by omega) = 48 := by
      have := partL_get (l := l) (i := i) (j := 2 * (i / 2) + 1) (by omega) (by omega)
      rw [List.getD_eq_getElem?_getD, List.getElem?_eq_getElem (by omega)] at this
      exact this
    rw [e1, e2]
    rfl
/-- odd place -/
theorem part_odd {l : Bs} {m i : Nat} (hl : l.length = 2 * m) (hi : i < l.length) (ho : i % 2 = 1) : pairsB (partL l (i + 1)) = (pairsB (partL l i)).set (i / 2) (UInt8.ofNat (((l.getD (i - 1) 0).toNat - 48) * 16 + (l[i].toNat - 48))) ∧ (pairsB (partL l i))[i / 2]? = some (UInt8.ofNat (((l.getD (i - 1) 0).toNat - 48) * 16)) := by
  have hlen := partL_len l i (by omega)
  have e0 : 2 * (i / 2) = i - 1 := by omega
  constructor
  · rw [partL_next hi]
    refine pairsB_set (m := m) (by omega) (by omega) _ ?_
    rw [if_neg (by omega), if_pos ho, e0, partL_old (by omega) (by omega)]
  · rw [pairsB_get _ _ (by omega)]
    have e1 : (partL l i)[2 * (i / 2)]'(by omega) = l.getD (i - 1) 0 := by
      have := partL_old (l := l) (i := i) (j := 2 * (i / 2)) (by omega) (by omega)
      rw [List.getD_eq_getElem?_getD, List.getElem?_eq_getElem (by omega)] at this
      rw [← e0]
      exact this
    have e2 : (partL l i)[2 * (i / 2) + 1]'(by omega) = 48 := by
      have := partL_get (l := l) (i := i) (j := 2 * (i / 2) + 1) (by omega) (by omega)
      rw [List.getD_eq_getElem?_getD, List.getElem?_eq_getElem (by omega)] at this
      exact this
    rw [e1, e2]
    rfl
theorem part_zero (l : Bs) {m : Nat} (hl : l.length = 2 * m) : pairsB (partL l 0) = List.replicate m 0 := by
  have : ∀ m, pairsB (List.replicate (2 * m) 48) = List.replicate m 0 := by
    intro m
    induction m with
    | zero => rfl
    | succ m ih => rw [show 2 * (m + 1) = 2 * m + 1 + 1 by omega, List.replicate_succ, List.replicate_succ, pairsB, ih, List.replicate_succ]; rfl
  unfold partL
  rw [List.take_zero, List.nil_append, Nat.sub_zero, hl]
  exact this m
/-- the digits' places in the padded list -/
theorem pad_at (l : Bs) {k : Nat} (hk : k < l.length) : (padL l)[k + l.length % 2]? = some l[k] := by
  unfold padL
  rcases Nat.mod_two_eq_zero_or_one l.length with h | h
  · rw [if_neg (by omega), h, Nat.add_zero, List.getElem?_eq_getElem hk]
  · rw [if_pos h, h, List.getElem?_cons_succ, List.getElem?_eq_getElem hk]
theorem pad_first (l : Bs) : pairsB (partL (padL l) (l.length % 2)) = pairsB (partL (padL l) 0) := by
  rcases Nat.mod_two_eq_zero_or_one l.length with h | h
  · rw [h]
  · have h1 : 0 < (padL l).length := by rw [padL_len]; omega
    rw [h, partL_next h1]
    have e : (padL l)[0] = 48 := by simp [padL, h]
    rw [e]
    congr 1
    apply List.ext_getElem?
    intro j
    by_cases hj : j = 0
    · subst hj
      rw [List.getElem?_set_self (by rw [partL_len _ _ (by omega)]; omega)]
      have := partL_get (l := padL l) (i := 0) (j := 0) (by omega) h1
      rw [List.getD_eq_getElem?_getD, List.getElem?_eq_getElem (by rw [partL_len _ _ (by omega)]; omega)] at this
      rw [List.getElem?_eq_getElem (by rw [partL_len _ _ (by omega)]; omega)]
      exact congrArg some this.symm
    · rw [List.getElem?_set_ne (fun e => hj e.symm)]
end Go.Proofs.YthckgkghmlkcnaaDoor
