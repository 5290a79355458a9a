/-
  PLAIN: what the acts do to what LedgerSums keeps.
-/
import Derived.Test.YtfmcfkfhmncaiaaLgAt
namespace Go.Proofs.Ytfmcfkfhmncaiaa

/-- what the law's own variables say of the posts -/
structure SumsInv (key : ByteArray) (ps : List Post) (sum : Int) (app rev : Bool) (ans : ByteArray) : Prop where
  sum : sum = sumA ps
  app : app = (askP ps key).isSome
  rev : rev = ((askP ps key).map fun p => decide (p.state = 2)).getD false
  ans : ∀ p, askP ps key = some p → ans = p.answer

theorem addE_zero {ps : List Post} {p : Post} (h : addE ps p = 0) : p.may = true ∧ posOf ps p.key = none ∧ ps.length < 24 ∧ p.counts ≤ 5000000000000 - sumA ps := by
  unfold addE at h
  by_cases h1 : p.may = false
  · simp [h1] at h
  rw [if_neg h1] at h
  by_cases h2 : (posOf ps p.key).isSome
  · simp [h2] at h
  rw [if_neg h2] at h
  by_cases h3 : 24 ≤ ps.length
  · simp [h3] at h
  rw [if_neg h3] at h
  by_cases h4 : 5000000000000 - sumA ps < p.counts
  · simp [h4] at h
  exact ⟨by simpa using h1, by simpa using h2, by omega, by omega⟩
theorem addL_zero {ps : List Post} {p : Post} (h : addE ps p = 0) : addL ps p = ps ++ [p] := by rw [addL, if_pos h]
theorem addL_no {ps : List Post} {p : Post} (h : ¬ addE ps p = 0) : addL ps p = ps := by rw [addL, if_neg h]
theorem askP_append (ps qs : List Post) (s : ByteArray) : askP (ps ++ qs) s = (askP ps s).or (askP qs s) := by
  simp [askP, List.find?_append]
theorem askP_key {ps : List Post} {s : ByteArray} {p : Post} (h : askP ps s = some p) : p.key = s ∧ p ∈ ps := by
  have h1 := List.find?_some h
  exact ⟨by simpa using h1, List.mem_of_find?_eq_some h⟩
theorem askP_modify_ne {ps : List Post} {k : Nat} {s : ByteArray} (h : ∀ (hk : k < ps.length), ps[k].key ≠ s) : askP (ps.modify k revP) s = askP ps s := by
  induction ps generalizing k with
  | nil => simp
  | cons p ps ih =>
    cases k with
    | zero =>
      have := h (by simp)
      simp only [List.getElem_cons_zero] at this
      simp [askP, revP, this]
    | succ k =>
      have := ih (k := k) (fun hk => by have := h (by simpa using hk); simpa using this)
      unfold askP at this ⊢
      rw [List.modify_succ_cons, List.find?_cons, List.find?_cons, this]
theorem askP_modify_eq {ps : List Post} {k : Nat} {s : ByteArray} (hk : k < ps.length) (h : posOf ps s = some (k : Int)) : askP (ps.modify k revP) s = some (revP ps[k]) := by
  obtain ⟨k', hk', e, hkey, hask⟩ := askP_of h
  obtain rfl : k = k' := by omega
  have h1 : posOf (ps.modify k revP) s = some (k : Int) := by rw [posOf_keys (keys_modify ps k)]; exact h
  obtain ⟨k', hk'', e, _, hask'⟩ := askP_of h1
  obtain rfl : k = k' := by omega
  rw [hask', List.getElem_modify_eq]
theorem modify_same {ps : List Post} {k : Nat} (h : ∀ (hk : k < ps.length), ps[k].state = 2) : ps.modify k revP = ps := by
  apply List.ext_getElem
  · simp
  · intro i h1 h2
    rw [List.getElem_modify]
    split
    · rename_i e; subst e; simp [revP]; rw [← h h2]
    · rfl
theorem posOf_of_ask {ps : List Post} {s : ByteArray} {p : Post} (h : askP ps s = some p) : ∃ (k : Nat) (hk : k < ps.length), posOf ps s = some (k : Int) ∧ ps[k] = p := by
  cases hp : posOf ps s with
  | none => rw [askP_none hp] at h; cases h
  | some x =>
    obtain ⟨k, hk, rfl, _, hask⟩ := askP_of hp
    rw [hask] at h
    exact ⟨k, hk, rfl, Option.some.inj h⟩
/-- what is not reversed leaves the posts as they are -/
theorem revL_no {ps : List Post} {s : ByteArray} (h : revE ps s ≠ 0) : revL ps s = ps := by
  unfold revE at h
  unfold revL
  cases hp : posOf ps s with
  | none => rfl
  | some x =>
    obtain ⟨k, hk, rfl, _, hask⟩ := askP_of hp
    rw [hask] at h
    simp only at h
    refine modify_same fun hk' => ?_
    refine Decidable.byContradiction fun hn => ?_
    simp only [Int.toNat_natCast] at hn
    rw [if_neg hn] at h
    exact h rfl
theorem revE_zero {ps : List Post} {s : ByteArray} (h : revE ps s = 0) : ∃ (k : Nat) (hk : k < ps.length), posOf ps s = some (k : Int) ∧ askP ps s = some ps[k] ∧ ps[k].state ≠ 2 ∧ revN ps s = ps[k].amount ∧ revL ps s = ps.modify k revP := by
  unfold revE at h
  cases hask : askP ps s with
  | none => simp [hask] at h
  | some p =>
    obtain ⟨k, hk, hp, rfl⟩ := posOf_of_ask hask
    rw [hask] at h
    simp only at h
    have hs : ps[k].state ≠ 2 := fun e => by rw [if_pos e] at h; simp at h
    exact ⟨k, hk, hp, rfl, hs, by simp [revN, hask, hs], by simp [revL, hp]⟩

theorem sums_add_key {key : ByteArray} {ps : List Post} {sum : Int} {app rev : Bool} {ans : ByteArray} (hi : SumsInv key ps sum app rev ans) {amt : Int} {an : ByteArray} (h : addE ps ⟨key, amt, 1, an⟩ = 0) :
    app = false ∧ rev = false ∧ SumsInv key (ps ++ [⟨key, amt, 1, an⟩]) (sum + amt) true false an := by
  obtain ⟨hm, hp, hl, ht⟩ := addE_zero h
  have hn := askP_none hp
  obtain ⟨rfl, rfl, rfl, ha⟩ := hi
  refine ⟨by rw [hn]; rfl, by rw [hn]; rfl, ?_, ?_, ?_, ?_⟩
  · rw [sumA_append]; simp [sumA, Post.counts]
  · rw [askP_append, hn]; simp [askP]
  · rw [askP_append, hn]; simp [askP]
  · intro p hp; rw [askP_append, hn] at hp; simp [askP] at hp; rw [← hp]
theorem sums_add_other {key : ByteArray} {ps : List Post} {sum : Int} {app rev : Bool} {ans : ByteArray} (hi : SumsInv key ps sum app rev ans) {s : ByteArray} {amt : Int} {an : ByteArray} (hne : s ≠ key) :
    SumsInv key (ps ++ [⟨s, amt, 1, an⟩]) (sum + amt) app rev ans := by
  have e : askP (ps ++ [⟨s, amt, 1, an⟩]) key = askP ps key := by rw [askP_append]; simp [askP, hne]
  obtain ⟨rfl, rfl, rfl, ha⟩ := hi
  exact ⟨by rw [sumA_append]; simp [sumA, Post.counts], by rw [e], by rw [e], by rw [e]; exact ha⟩
theorem sums_rev_key {key : ByteArray} {ps : List Post} (hg : Good ps) {sum : Int} {app rev : Bool} {ans : ByteArray} (hi : SumsInv key ps sum app rev ans) (h : revE ps key = 0) :
    app = true ∧ rev = false ∧ SumsInv key (revL ps key) (sum - revN ps key) true true ans := by
  obtain ⟨k, hk, hp, hask, hs, hn, hl⟩ := revE_zero h
  have hm := hg.may _ (List.getElem_mem hk)
  obtain ⟨rfl, rfl, rfl, ha⟩ := hi
  have e := askP_modify_eq hk hp
  refine ⟨by rw [hask]; rfl, by rw [hask]; simp [hs], ?_, ?_, ?_, ?_⟩
  · rw [hl, hn, sum_modify hk hs hm]
  · rw [hl, e]; rfl
  · rw [hl, e]; simp [revP]
  · intro p hp'; rw [hl, e] at hp'; rw [ha _ hask]; obtain rfl := Option.some.inj hp'; rfl
theorem sums_rev_other {key : ByteArray} {ps : List Post} (hg : Good ps) {sum : Int} {app rev : Bool} {ans : ByteArray} (hi : SumsInv key ps sum app rev ans) {s : ByteArray} (hne : s ≠ key) (h : revE ps s = 0) :
    SumsInv key (revL ps s) (sum - revN ps s) app rev ans := by
  obtain ⟨k, hk, hp, hask, hs, hn, hl⟩ := revE_zero h
  have hm := hg.may _ (List.getElem_mem hk)
  have e : askP (ps.modify k revP) key = askP ps key := askP_modify_ne (fun _ => by rw [(askP_key hask).1]; exact hne)
  obtain ⟨rfl, rfl, rfl, ha⟩ := hi
  exact ⟨by rw [hl, hn, sum_modify hk hs hm], by rw [hl, e], by rw [hl, e], by rw [hl, e]; exact ha⟩
theorem sums_close (key : ByteArray) (ans : ByteArray) : SumsInv key [] 0 false false ans := ⟨rfl, rfl, rfl, fun p hp => by cases hp⟩
/-- what is reversed lies between 0 and the total -/
theorem revN_bounds {ps : List Post} (hg : Good ps) {s : ByteArray} (h : revE ps s = 0) : 0 ≤ revN ps s ∧ revN ps s ≤ sumA ps := by
  obtain ⟨k, hk, hp, hask, hs, hn, hl⟩ := revE_zero h
  have hm := hg.may _ (List.getElem_mem hk)
  have h2 := sumA_nonneg (good_rev hg hk hs).may
  rw [sum_modify hk hs hm] at h2
  rw [hn]
  simp only [Post.may, Bool.and_eq_true, decide_eq_true_eq] at hm
  omega
end Go.Proofs.Ytfmcfkfhmncaiaa
