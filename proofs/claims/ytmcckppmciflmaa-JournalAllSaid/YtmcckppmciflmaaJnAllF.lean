/-
  JOURNALS (plain): a journal of 14 sectors of 64 bytes, cut off in a Commit and in Opens; the text of its sectors.
-/
import Derived.Test.YtmcckppmciflmaaJnRdP
namespace Go.Proofs.Ytmcckppmciflmaa

theorem jrun_home_unarmed {l : List JW} {was : Nat → Bs} {d : DK} (hv : VL l) (h : Cl (A2 l was) d) (ha : d.arm = none) : (jrun (d, 0) (partsB l)).2 = 0 := by
  refine (jrun_unarmed (partsB l) d h.2.1 ha fun n b hn => ?_).1
  unfold partsB at hn
  simp only [List.mem_append, List.mem_map, Option.some.injEq, exists_eq_right, List.mem_cons, List.not_mem_nil, or_false, reduceCtorEq] at hn
  rcases hn with hn | hn
  · obtain ⟨v, hv', e⟩ := List.mem_map.1 hn
    cases e
    obtain ⟨a, b, c⟩ := hv.all v hv'
    exact ⟨isS_of h.1.len (by omega) (by omega), by rw [h.1.size]; exact c⟩
  · cases hn
    exact ⟨isS_of h.1.len (by omega) (by omega), by rw [h.1.size]; exact head64 hv 0⟩
theorem open_unarmed {l : List JW} {was : Nat → Bs} {d : DK} (h1 : 1 ≤ l.length) (h : Bt l was d) (ha : d.arm = none) : (openR d).2 = 0 := by
  rcases h with (h | ⟨hv, h⟩) | h
  · rw [open_Cl0 h]
  · rw [open_Cl2 hv h1 h]; exact jrun_home_unarmed hv h ha
  · rw [open_Cl0 h]

/-- behind the cut of a Commit (told: it was all right, or not) and of Opens -/
def Cr (ok : Bool) (l : List JW) (X : Nat → Bs) (d : DK) : Prop := if ok then TrT l X d else Tr l X d
def Bo (ok : Bool) (l : List JW) (X : Nat → Bs) (d : DK) : Prop := if ok then BtT l X d else Bt l X d
section
variable {ok : Bool} {l : List JW} {X : Nat → Bs} {d : DK}
theorem Cr.boot (h : Cr ok l X d) (keep : List Int) : Bo ok l X (d.boot keep) := by
  cases ok
  · exact (boot_Tr h keep).1
  · exact (boot_TrT h keep).1
theorem Bo.bt (h : Bo ok l X d) : Bt l X d := by
  cases ok
  · exact h
  · exact .inl h
theorem Bo.armed (h : Bo ok l X d) {a p : Int} (ha : a ≤ 9223372036854775807) (hp0 : -9223372036854775808 ≤ p) (hp1 : p ≤ 9223372036854775807) : Bo ok l X (d.armed a p) := by
  cases ok
  · exact Bt.armed h ha hp0 hp1
  · exact BtT.armed h ha hp0 hp1
theorem Bo.open' (h : Bo ok l X d) (h1 : 1 ≤ l.length) : ((openR d).2 = 0 ∨ (openR d).2 = 30) ∧ Cr ok l X (openR d).1 := by
  cases ok
  · rcases open_Bt h (fun _ _ => h1) with ⟨a, b⟩ | ⟨a, b⟩
    · refine ⟨.inl a, ?_⟩
      rcases b with b | b
      · exact .inl (.inl b.tr)
      · exact .inr (.inl b.tr)
    · exact ⟨.inr a, .inl b⟩
  · rcases open_BtT h (fun _ _ => h1) with ⟨a, b⟩ | ⟨a, b⟩
    · exact ⟨.inl a, .inl b.tr⟩
    · exact ⟨.inr a, b⟩
theorem Bo.last (h : Bo ok l X d) (h1 : 1 ≤ l.length) (ha : d.arm = none) : (openR d).2 = 0 ∧ (Cl (A0 (thnF l X)) (openR d).1 ∨ (ok = false ∧ Cl (A0 X) (openR d).1)) := by
  have h0 := open_unarmed h1 h.bt ha
  refine ⟨h0, ?_⟩
  cases ok
  · rcases open_Bt h (fun _ _ => h1) with ⟨a, b⟩ | ⟨a, b⟩
    · exact b.imp id (fun b => ⟨rfl, b⟩)
    · rw [h0] at a; cases a
  · rcases open_BtT h (fun _ _ => h1) with ⟨a, b⟩ | ⟨a, b⟩
    · exact .inl b
    · rw [h0] at a; cases a
end
/-- behind a Commit to a clean journal, armed or not -/
theorem commit_cr {l : List JW} {X : Nat → Bs} {d : DK} (h : Cl (A0 X) d) :
    (((commitR d 0 l).2.2 == 0) = false ∧ ((commitR d 0 l).2.2 == 30) = false ∧ (commitR d 0 l).2.1 = 0 ∧ (commitR d 0 l).1 = d) ∨
    (((commitR d 0 l).2.2 = 0 ∨ (commitR d 0 l).2.2 = 30) ∧ mayE d l = 0 ∧ ∃ l', 1 ≤ l'.length ∧ thnF l' X = thnF l X ∧ Cr ((commitR d 0 l).2.2 == 0) l' X (commitR d 0 l).1) := by
  rcases commit_after (l := l) h with ⟨a, b, c, e, _⟩ | ⟨m, a, _, c⟩ | ⟨a, b, c⟩
  · exact .inl ⟨by simpa using a, by simpa using b, e, c⟩
  · refine .inr ⟨.inl a, m, ?_⟩
    rw [a]
    rcases Nat.eq_zero_or_pos l.length with h0 | h0
    · have : l = [] := List.eq_nil_of_length_eq_zero h0
      subst this
      refine ⟨[(-1, [])], by simp, ?_, ?_⟩
      · funext k
        show lastW [(-1, [])] k (X k) = X k
        exact lastW_not (by intro w hw; simp at hw; subst hw; simp) _
      · refine .inl ?_
        have e : thnF [((-1 : Int), ([] : Bs))] X = X := by
          funext k
          show lastW [(-1, [])] k (X k) = X k
          exact lastW_not (by intro w hw; simp at hw; subst hw; simp) _
        rw [e]
        exact c.tr
    · exact ⟨l, h0, rfl, .inl c.tr⟩
  · refine .inr ⟨.inr a, ?_, l, b, rfl, ?_⟩
    · unfold commitR at a
      rw [if_neg (by simp)] at a
      by_cases hm : mayE d l = 0
      · exact hm
      · rw [if_pos hm] at a
        have := mayE_err d l
        simp only at a
        omega
    · rw [a]; exact c

/-- five sectors, one behind another -/
def five (Y : Nat → Bs) : Bs := (List.range 5).flatMap Y
theorem five_eq (Y : Nat → Bs) : five Y = Y 0 ++ Y 1 ++ Y 2 ++ Y 3 ++ Y 4 := by
  unfold five
  rw [show List.range 5 = [0, 1, 2, 3, 4] by decide]
  simp
theorem five_congr {Y Z : Nat → Bs} (h : ∀ k, k < 5 → Y k = Z k) : five Y = five Z := by
  rw [five_eq, five_eq, h 0 (by omega), h 1 (by omega), h 2 (by omega), h 3 (by omega), h 4 (by omega)]
theorem five_len {Y : Nat → Bs} (h : ∀ k, k < 5 → (Y k).length = 64) : (five Y).length = 320 := by
  rw [five_eq]
  simp only [List.length_append]
  rw [h 0 (by omega), h 1 (by omega), h 2 (by omega), h 3 (by omega), h 4 (by omega)]
theorem five_cut {Y Z : Nat → Bs} (h : ∀ k, k < 5 → (Y k).length = 64) {m : Nat} (hm : m < 5) (b : Bs) (hz : ∀ k, k < 5 → Z k = if k = m then b else Y k) : (five Y).take (64 * m) ++ b ++ (five Y).drop (64 * m + 64) = five Z := by
  have e0 := h 0 (by omega); have e1 := h 1 (by omega); have e2 := h 2 (by omega); have e3 := h 3 (by omega); have e4 := h 4 (by omega)
  rw [five_eq, five_eq, hz 0 (by omega), hz 1 (by omega), hz 2 (by omega), hz 3 (by omega), hz 4 (by omega)]
  obtain rfl | rfl | rfl | rfl | rfl : m = 0 ∨ m = 1 ∨ m = 2 ∨ m = 3 ∨ m = 4 := by omega
  all_goals simp [List.take_append, List.drop_append, e0, e1, e2, e3, e4, List.take_of_length_le, List.drop_of_length_le]
/-- what the law's text is, behind the first i writes -/
def thnI (l : List JW) (X : Nat → Bs) (i : Nat) (k : Nat) : Bs := lastW (l.take i) k (X k)
theorem thnI_len {l : List JW} {X : Nat → Bs} (hX : ∀ k, k < 5 → (X k).length = 64) (hl : ∀ w ∈ l, w.2.length = 64) (i : Nat) : ∀ k, k < 5 → (thnI l X i k).length = 64 := by
  intro k hk
  unfold thnI
  rcases lastW_mem (ws := l.take i) (n := k) (x := X k) with ⟨e, _⟩ | ⟨w, hw, _, e⟩
  · rw [e]; exact hX k hk
  · rw [e]; exact hl w (List.mem_of_mem_take hw)
theorem thnI_in {l : List JW} {X : Nat → Bs} (hX : ∀ k, k < 5 → (X k).length = 64) (hl : ∀ w ∈ l, w.2.length = 64) {i : Nat} (hi : i < l.length) {m : Nat} (hm : m < 5) (e : l[i].1 = (m : Int)) :
    (five (thnI l X i)).take (64 * m) ++ l[i].2 ++ (five (thnI l X i)).drop (64 * m + 64) = five (thnI l X (i + 1)) :=
  five_cut (thnI_len hX hl i) hm _ fun k hk => by
    unfold thnI
    rw [lastW_take l k (X k) hi, e]
    by_cases h : m = k
    · subst h; simp
    · rw [if_neg (by omega), if_neg (by omega)]
theorem thnI_out {l : List JW} {X : Nat → Bs} {i : Nat} (hi : i < l.length) (e : l[i].1 < 0 ∨ 5 ≤ l[i].1) : five (thnI l X (i + 1)) = five (thnI l X i) :=
  five_congr fun k hk => by
    unfold thnI
    rw [lastW_take l k (X k) hi, if_neg (by omega)]
theorem thnI_all (l : List JW) (X : Nat → Bs) : thnI l X l.length = thnF l X := by funext k; unfold thnI thnF; rw [List.take_length]
theorem thnI_zero (l : List JW) (X : Nat → Bs) : thnI l X 0 = X := by funext k; rfl
theorem Cl.lens {X : Nat → Bs} {d : DK} (h : Cl (A0 X) d) : ∀ k, k < 5 → (X k).length = 64 := by
  intro k hk
  have e := safe_at h.1 (n := 9 + k) (by omega)
  have := (h.1.safe (9 + k) _ e).2 k rfl
  rw [← this, ← h.1.size]
  exact h.1.good.sizes _ (List.mem_of_getElem? e)
theorem Cl.boot0 {X : Nat → Bs} {d : DK} (h : Cl (A0 X) d) : openR d = (d, 0) := open_Cl0 h
end Go.Proofs.Ytmcckppmciflmaa
