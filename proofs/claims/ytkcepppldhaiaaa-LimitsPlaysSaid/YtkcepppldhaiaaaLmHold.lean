/-
  THE WALK of the law LimitsHold.
-/
import Derived.Test.YtkcepppldhaiaaaLmAnew
namespace Go.Proofs.Ytkcepppldhaiaaa
open Go.RowKit

theorem cur_of_find {us : List Use} {s : ByteArray} {u : Use} (h : us.find? (fun u => decide (u.card = s)) = some u) (W : Int) : curU us s W = if u.window = W then u else ⟨s, W, 0, 0⟩ := by simp [curU, h]
theorem cur_of_find_none {us : List Use} {s : ByteArray} (h : us.find? (fun u => decide (u.card = s)) = none) (W : Int) : curU us s W = ⟨s, W, 0, 0⟩ := by simp [curU, h]
theorem cur_congr {us vs : List Use} {s : ByteArray} (h : us.find? (fun u => decide (u.card = s)) = vs.find? (fun u => decide (u.card = s))) (W : Int) : curU us s W = curU vs s W := by simp [curU, h]

theorem find_set_self {us : List Use} {k : Nat} (hk : k < us.length) {s : ByteArray} {u : Use} (hf : findU us s = some k) (hu : u.card = s) : (us.set k u).find? (fun u => decide (u.card = s)) = some u := by
  unfold findU at hf
  rw [List.findIdx?_eq_some_iff_getElem] at hf
  obtain ⟨_, h1, h2⟩ := hf
  rw [List.find?_eq_some_iff_getElem]
  refine ⟨by simpa using hu, k, by simpa using hk, by simp, fun j hj => ?_⟩
  rw [List.getElem_set_ne (by omega)]
  simpa using h2 j hj
theorem find_set_other {us : List Use} {k : Nat} (hk : k < us.length) {s : ByteArray} {u : Use} (h1 : us[k].card ≠ s) (hu : u.card ≠ s) : (us.set k u).find? (fun u => decide (u.card = s)) = us.find? (fun u => decide (u.card = s)) := by
  induction us generalizing k with
  | nil => simp at hk
  | cons v us ih =>
    cases k with
    | zero =>
      simp only [List.getElem_cons_zero] at h1
      rw [List.set_cons_zero, List.find?_cons_of_neg (by simpa using hu), List.find?_cons_of_neg (by simpa using h1)]
    | succ k =>
      rw [List.set_cons_succ]
      by_cases hv : v.card = s
      · rw [List.find?_cons_of_pos (by simpa using hv), List.find?_cons_of_pos (by simpa using hv)]
      · rw [List.find?_cons_of_neg (by simpa using hv), List.find?_cons_of_neg (by simpa using hv)]
        exact ih (by simpa using hk) (by simpa using h1)
theorem find_append_other {us : List Use} {s : ByteArray} {u : Use} (hu : u.card ≠ s) : (us ++ [u]).find? (fun u => decide (u.card = s)) = us.find? (fun u => decide (u.card = s)) := by
  rw [List.find?_append]
  have : [u].find? (fun u => decide (u.card = s)) = none := by simp [hu]
  rw [this]; cases us.find? (fun u => decide (u.card = s)) <;> rfl
theorem find_erase {us : List Use} {k : Nat} (hk : k < us.length) {s : ByteArray} (hn : (us.map Use.card).Nodup) : (us.eraseIdx k).find? (fun u => decide (u.card = s)) = if us[k].card = s then none else us.find? (fun u => decide (u.card = s)) := by
  induction us generalizing k with
  | nil => simp at hk
  | cons v us ih =>
    simp only [List.map_cons, List.nodup_cons] at hn
    cases k with
    | zero =>
      simp only [List.eraseIdx_zero, List.tail_cons, List.getElem_cons_zero]
      split
      · rename_i hv
        rw [List.find?_eq_none]
        intro x hx
        simp only [decide_eq_true_eq]
        intro e
        exact hn.1 (List.mem_map.2 ⟨x, hx, by rw [e, hv]⟩)
      · rename_i hv
        rw [List.find?_cons_of_neg (by simpa using hv)]
    | succ k =>
      rw [List.eraseIdx_cons_succ]
      simp only [List.getElem_cons_succ]
      by_cases hv : v.card = s
      · have hk' : k < us.length := by simpa using hk
        have : us[k].card ≠ s := fun e => hn.1 (List.mem_map.2 ⟨us[k], List.getElem_mem hk', by rw [e, hv]⟩)
        rw [List.find?_cons_of_pos (by simpa using hv), if_neg this, List.find?_cons_of_pos (by simpa using hv)]
      · rw [List.find?_cons_of_neg (by simpa using hv), List.find?_cons_of_neg (by simpa using hv)]
        exact ih (by simpa using hk) hn.2

/-- the card that was let through -/
theorem cur_try_self {us : List Use} {r : Rule} {s : ByteArray} {a n : Int} (h0 : tryE us r s a n = 0) (W : Int) :
    curU (tryL us r s a n) s W = if n / r.ticks = W then addU (curU us s (n / r.ticks)) a else ⟨s, W, 0, 0⟩ := by
  have hc := cur_card us s (n / r.ticks)
  have hw : (addU (curU us s (n / r.ticks)) a).window = n / r.ticks := hc.2
  unfold tryL
  rw [if_pos h0]
  cases hf : findU us s with
  | some k =>
    obtain ⟨hk, _⟩ := find_of_findU hf
    have := cur_of_find (find_set_self hk hf (u := addU (curU us s (n / r.ticks)) a) hc.1) W
    rw [this, hw]
  | none =>
    have hnone : (roomL us (n / r.ticks)).find? (fun u => decide (u.card = s)) = none := by
      rw [findU_none] at hf
      rw [List.find?_eq_none]
      intro x hx
      simpa using hf x (room_mem hx)
    have : (roomL us (n / r.ticks) ++ [addU (curU us s (n / r.ticks)) a]).find? (fun u => decide (u.card = s)) = some (addU (curU us s (n / r.ticks)) a) := by
      rw [List.find?_append, hnone]
      have : (addU (curU us s (n / r.ticks)) a).card = s := hc.1
      simp [this]
    rw [cur_of_find this, hw]
/-- another one -/
theorem cur_try_other {us : List Use} {r : Rule} {s t : ByteArray} {a n : Int} (hg : GoodU us) (hw : ∀ u ∈ us, u.window ≤ n / r.ticks) (ht : s ≠ t) {W : Int} (hW : n / r.ticks ≤ W) :
    curU (tryL us r s a n) t W = curU us t W := by
  have hc := cur_card us s (n / r.ticks)
  unfold tryL
  split
  · cases hf : findU us s with
    | some k =>
      obtain ⟨hk, hk2, _⟩ := find_of_findU hf
      exact cur_congr (find_set_other hk (by rw [hk2]; exact ht) (by show (curU us s (n / r.ticks)).card ≠ t; rw [hc.1]; exact ht)) W
    | none =>
      have e := find_append_other (us := roomL us (n / r.ticks)) (s := t) (u := addU (curU us s (n / r.ticks)) a) (by show (curU us s (n / r.ticks)).card ≠ t; rw [hc.1]; exact ht)
      show curU (roomL us (n / r.ticks) ++ [addU (curU us s (n / r.ticks)) a]) t W = _
      rw [cur_congr e W]
      unfold roomL
      split
      · rfl
      · split
        · rename_i k hk
          unfold findW at hk
          rw [List.findIdx?_eq_some_iff_getElem] at hk
          obtain ⟨hlt, hkw, _⟩ := hk
          simp only [decide_eq_true_eq] at hkw
          have he := find_erase hlt (s := t) hg.cards
          by_cases hkt : us[k].card = t
          · rw [if_pos hkt] at he
            rw [cur_of_find_none he]
            have hfs : us.find? (fun u => decide (u.card = t)) = some us[k] := by
              cases hfu : findU us t with
              | none => exact absurd hkt (findU_none.1 hfu _ (List.getElem_mem hlt))
              | some j =>
                obtain ⟨hj, hj2, hj3⟩ := find_of_findU hfu
                rw [hj3]
                have hnd := hg.cards
                rw [List.nodup_iff_pairwise_ne, List.pairwise_iff_getElem] at hnd
                have : j = k := by
                  rcases Nat.lt_trichotomy j k with h | h | h
                  · exact (hnd j k (by simpa using hj) (by simpa using hlt) h (by simp [hj2, hkt])).elim
                  · exact h
                  · exact (hnd k j (by simpa using hlt) (by simpa using hj) h (by simp [hj2, hkt])).elim
                subst this; rfl
            rw [cur_of_find hfs, if_neg]
            have := hw _ (List.getElem_mem hlt)
            omega
          · rw [if_neg hkt] at he
            exact cur_congr he W
        · rfl
  · rfl

/-- what the law's own variables say -/
structure HoldInv (r : Rule) (card : ByteArray) (us : List Use) (now window times sum : Int) : Prop where
  anew : AnewInv r now us
  cur : r.right = true → ∀ W, now / r.ticks ≤ W → curU us card W = if window = W then ⟨card, W, times, sum⟩ else ⟨card, W, 0, 0⟩

theorem HoldInv.start {r : Rule} {card : ByteArray} : HoldInv r card [] 0 (-1) 0 0 := by
  refine ⟨AnewInv.nil, fun hr W hW => ?_⟩
  rw [cur_of_find_none (by rfl)]
  rw [if_neg]
  have : (0 : Int) / r.ticks = 0 := Int.zero_ediv _
  omega
theorem HoldInv.later {r : Rule} {card : ByteArray} {us : List Use} {now window times sum d : Int} (h : HoldInv r card us now window times sum) (hd : 0 ≤ d) : HoldInv r card us (now + d) window times sum := by
  refine ⟨fun u hu => ?_, fun hr W hW => ?_⟩
  · obtain ⟨h1, h2⟩ := h.anew u hu
    obtain ⟨t1, _⟩ := right_iff.1 h1
    exact ⟨h1, Int.le_trans h2 (Int.ediv_le_ediv (by omega) (by omega))⟩
  · obtain ⟨t1, _⟩ := right_iff.1 hr
    exact h.cur hr W (Int.le_trans (Int.ediv_le_ediv (by omega) (by omega)) hW)
theorem HoldInv.other {r : Rule} {card : ByteArray} {us : List Use} {now window times sum : Int} (h : HoldInv r card us now window times sum) (hg : GoodU us) {s : ByteArray} (hs : s ≠ card) (a : Int) : HoldInv r card (tryL us r s a now) now window times sum :=
  ⟨h.anew.try s a now (Int.le_refl _), fun hr W hW => by rw [cur_try_other hg (fun u hu => (h.anew u hu).2) hs hW]; exact h.cur hr W hW⟩
theorem HoldInv.self {r : Rule} {card : ByteArray} {us : List Use} {now window times sum : Int} (h : HoldInv r card us now window times sum) {a : Int} (h0 : tryE us r card a now = 0) :
    (0 ≤ a ∧ a ≤ r.once ∧ r.once ≤ 999999999999) ∧
    (window = now / r.ticks → HoldInv r card (tryL us r card a now) now window (times + 1) (sum + a) ∧ times + 1 ≤ r.times ∧ sum + a ≤ r.sum) ∧
    (window ≠ now / r.ticks → HoldInv r card (tryL us r card a now) now (now / r.ticks) 1 a ∧ 1 ≤ r.times ∧ a ≤ r.sum) := by
  obtain ⟨h1, h2, h3, h4, _⟩ := tryE_zero h0
  obtain ⟨hr, _, ha0, _⟩ := may_iff.1 h1
  obtain ⟨t1, t2, t3, t4, t5, t6, t7, t8⟩ := right_iff.1 hr
  have hc := h.cur hr (now / r.ticks) (Int.le_refl _)
  refine ⟨⟨ha0, h2, t8⟩, fun hw => ?_, fun hw => ?_⟩
  · rw [if_pos hw] at hc
    rw [hc] at h3 h4
    refine ⟨⟨h.anew.try card a now (Int.le_refl _), fun _ W hW => ?_⟩, by simp only at h3; omega, by simp only at h4; omega⟩
    rw [cur_try_self h0, hc, hw]
    by_cases e : now / r.ticks = W
    · rw [if_pos e, if_pos e]; simp only [addU]; rw [e]
    · rw [if_neg e, if_neg e]
  · rw [if_neg hw] at hc
    rw [hc] at h3 h4
    refine ⟨⟨h.anew.try card a now (Int.le_refl _), fun _ W hW => ?_⟩, by simp only at h3; omega, by simp only at h4; omega⟩
    rw [cur_try_self h0, hc]
    by_cases e : now / r.ticks = W
    · rw [if_pos e, if_pos e]; simp only [addU]; rw [e]; simp
    · rw [if_neg e, if_neg e]
end Go.Proofs.Ytkcepppldhaiaaa
