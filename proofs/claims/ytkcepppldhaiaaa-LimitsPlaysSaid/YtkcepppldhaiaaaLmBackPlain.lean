/-
  PLAIN: what Try and then Undo leave (for LimitsBack).
-/
import Derived.Test.YtkcepppldhaiaaaLmHold
import Derived.Test.YtkcepppldhaiaaaLmRest
namespace Go.Proofs.Ytkcepppldhaiaaa

theorem find_try {us : List Use} {r : Rule} {s : ByteArray} {a n : Int} (h0 : tryE us r s a n = 0) : (tryL us r s a n).find? (fun u => decide (u.card = s)) = some (addU (curU us s (n / r.ticks)) a) := by
  have hc := cur_card us s (n / r.ticks)
  unfold tryL
  rw [if_pos h0]
  cases hf : findU us s with
  | some k =>
    obtain ⟨hk, _⟩ := find_of_findU hf
    exact find_set_self hk hf hc.1
  | none =>
    have hnone : (roomL us (n / r.ticks)).find? (fun u => decide (u.card = s)) = none := by
      rw [findU_none] at hf
      rw [List.find?_eq_none]
      intro x hx
      simpa using hf x (room_mem hx)
    show (roomL us (n / r.ticks) ++ [addU (curU us s (n / r.ticks)) a]).find? (fun u => decide (u.card = s)) = some (addU (curU us s (n / r.ticks)) a)
    rw [List.find?_append, hnone]
    have : (addU (curU us s (n / r.ticks)) a).card = s := hc.1
    simp [this]
theorem back_ok {us : List Use} (hg : GoodU us) {r : Rule} {s : ByteArray} {a n : Int} (h0 : tryE us r s a n = 0) :
    undoE (tryL us r s a n) r s a n = 0 ∧ (undoL (tryL us r s a n) r s a n).length = (tryL us r s a n).length ∧
    ∀ (i : Nat) (hi : i < (undoL (tryL us r s a n) r s a n).length), (undoL (tryL us r s a n) r s a n)[i].card = s → (undoL (tryL us r s a n) r s a n)[i] = curU us s (undoL (tryL us r s a n) r s a n)[i].window := by
  obtain ⟨hm, _⟩ := tryE_zero h0
  have hgv := good_try hg r s a n
  have hfd := find_try h0
  obtain ⟨hc1, hc2⟩ := cur_card us s (n / r.ticks)
  obtain ⟨ct0, _, cs0, _⟩ := cur_ok hg s (n / r.ticks)
  have hcur : curU us s (curU us s (n / r.ticks)).window = curU us s (n / r.ticks) := by rw [hc2]
  generalize tryL us r s a n = vs at *
  generalize curU us s (n / r.ticks) = cu at *
  cases hf : findU vs s with
  | none => rw [find_of_none hf] at hfd; cases hfd
  | some k =>
    obtain ⟨hk, hkc, hkf⟩ := find_of_findU hf
    rw [hkf] at hfd
    have hvk : vs[k] = addU cu a := Option.some.inj hfd
    obtain ⟨e0, eL⟩ := undo_ok hm hf hk (by rw [hvk]; simp only [addU]; rw [hc2]; omega)
    refine ⟨e0, by rw [eL]; simp, fun i hi hic => ?_⟩
    simp only [eL] at hic hi ⊢
    by_cases e : i = k
    · subst e
      rw [List.getElem_set_self] at hic ⊢
      rw [hvk] at hic ⊢
      have : subU a (addU cu a) = cu := by
        obtain ⟨c1, c2, c3, c4⟩ := cu
        simp only [subU, addU, Use.mk.injEq, true_and]
        omega
      rw [this, hcur]
    · rw [List.getElem_set_ne (by omega)] at hic
      have hnd := hgv.cards
      rw [List.nodup_iff_pairwise_ne, List.pairwise_iff_getElem] at hnd
      have hi' : i < vs.length := by simpa using hi
      rcases Nat.lt_or_gt_of_ne e with h | h
      · exact (hnd i k (by simpa using hi') (by simpa using hk) h (by simp [hic, hkc])).elim
      · exact (hnd k i (by simpa using hk) (by simpa using hi') h (by simp [hic, hkc])).elim

theorem cur_take {us : List Use} (hg : GoodU us) {k : Nat} (hk : k < us.length) (s : ByteArray) (W : Int) :
    curU (us.take (k + 1)) s W = if us[k].card = s ∧ us[k].window = W then us[k] else curU (us.take k) s W := by
  have hg' := hg.take (k + 1)
  rw [List.take_succ_eq_append_getElem hk] at hg' ⊢
  by_cases hc : us[k].card = s
  · have hn := (good_last hg').2
    rw [hc] at hn
    have hn' := find_of_none hn
    have hf : (us.take k ++ [us[k]]).find? (fun u => decide (u.card = s)) = some us[k] := by rw [List.find?_append, hn']; simp [hc]
    rw [cur_of_find hf, cur_of_find_none hn']
    by_cases hw : us[k].window = W
    · rw [if_pos hw, if_pos ⟨hc, hw⟩]
    · rw [if_neg hw, if_neg (fun h => hw h.2)]
  · rw [if_neg (fun h => hc h.1)]
    exact cur_congr (find_append_other hc) W
end Go.Proofs.Ytkcepppldhaiaaa
