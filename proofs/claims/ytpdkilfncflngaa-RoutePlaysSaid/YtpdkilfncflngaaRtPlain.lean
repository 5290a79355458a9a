/-
  ROUTES (plain): a table of routes by rising prefixes; what is put, dropped, found.
-/
import Derived.Test.YtpdkilfncflngaaRow
import Derived.Sort.KeysCollected
namespace Go.Proofs.Ytpdkilfncflngaa
open Go.RowKit

structure Route where
  pre : ByteArray
  target : Int
def Route.cells (r : Route) : List Value := [.string r.pre, .int .i64 r.target]
def Route.val (r : Route) : Value := .agg #[.string r.pre, .int .i64 r.target]
def RouteR : Rec Route := ⟨2, Route.cells, fun _ => rfl, fun u v hv => by simp [Route.cells] at hv; rcases hv with rfl | rfl <;> rfl⟩

/-- 'a < b', byte by byte -/
def ltB (a b : ByteArray) : Prop := a.toList < b.toList
instance (a b : ByteArray) : Decidable (ltB a b) := inferInstanceAs (Decidable (a.toList < b.toList))
theorem ltB_irrefl (a : ByteArray) : ¬ ltB a a := List.lt_irrefl _
theorem ltB_trans {a b c : ByteArray} (h : ltB a b) (g : ltB b c) : ltB a c := List.lt_trans h g
theorem ltB_asymm {a b : ByteArray} (h : ltB a b) : ¬ ltB b a := fun g => ltB_irrefl a (ltB_trans h g)
theorem ltB_tri (a b : ByteArray) : ltB a b ∨ a = b ∨ ltB b a := by
  by_cases h1 : a.toList < b.toList
  · exact .inl h1
  · by_cases h2 : b.toList < a.toList
    · exact .inr (.inr h2)
    · exact .inr (.inl (toList_inj' (List.le_antisymm (List.not_lt.1 h2) (List.not_lt.1 h1))))

abbrev Sorted (rs : List Route) : Prop := rs.Pairwise (fun a b => ltB a.pre b.pre)
def lookR (rs : List Route) (s : ByteArray) : Option Int := (rs.find? (fun r => decide (r.pre = s))).map Route.target

theorem lookR_nil (s : ByteArray) : lookR [] s = none := rfl
theorem lookR_cons (r : Route) (rs : List Route) (s : ByteArray) : lookR (r :: rs) s = if r.pre = s then some r.target else lookR rs s := by
  unfold lookR
  by_cases h : r.pre = s
  · rw [List.find?_cons_of_pos (by simpa using h), if_pos h]; rfl
  · rw [List.find?_cons_of_neg (by simpa using h), if_neg h]
theorem lookR_append (a b : List Route) (s : ByteArray) : lookR (a ++ b) s = (lookR a s).or (lookR b s) := by
  induction a with
  | nil => simp [lookR_nil]
  | cons r a ih =>
    rw [List.cons_append, lookR_cons, lookR_cons]
    split
    · rfl
    · exact ih
theorem lookR_none {rs : List Route} {s : ByteArray} : lookR rs s = none ↔ ∀ r ∈ rs, r.pre ≠ s := by
  unfold lookR
  simp
theorem lookR_mem {rs : List Route} {s : ByteArray} {t : Int} (h : lookR rs s = some t) : ∃ r ∈ rs, r.pre = s ∧ r.target = t := by
  unfold lookR at h
  rw [Option.map_eq_some_iff] at h
  obtain ⟨r, hr, rfl⟩ := h
  exact ⟨r, List.mem_of_find?_eq_some hr, by simpa using List.find?_some hr, rfl⟩
theorem lookR_of_mem {rs : List Route} (hs : Sorted rs) {r : Route} (hr : r ∈ rs) : lookR rs r.pre = some r.target := by
  induction rs with
  | nil => cases hr
  | cons q rs ih =>
    rw [lookR_cons]
    have hs := List.pairwise_cons.1 hs
    rcases List.mem_cons.1 hr with rfl | hr
    · rw [if_pos rfl]
    · rw [if_neg, ih hs.2 hr]
      intro e
      exact ltB_irrefl _ (e ▸ hs.1 r hr)
/-- a table is known by its answers -/
theorem sorted_ext : ∀ {rs qs : List Route}, Sorted rs → Sorted qs → (∀ s, lookR rs s = lookR qs s) → rs = qs
  | [], [], _, _, _ => rfl
  | [], q :: qs, _, _, h => by have := h q.pre; rw [lookR_nil, lookR_cons, if_pos rfl] at this; cases this
  | r :: rs, [], _, _, h => by have := h r.pre; rw [lookR_nil, lookR_cons, if_pos rfl] at this; cases this
  | r :: rs, q :: qs, hr, hq, h => by
    have hr' := List.pairwise_cons.1 hr
    have hq' := List.pairwise_cons.1 hq
    have e : r.pre = q.pre := by
      rcases ltB_tri r.pre q.pre with hl | he | hl
      · exfalso
        have := h r.pre
        rw [lookR_cons, if_pos rfl] at this
        obtain ⟨p, hp, hpe, _⟩ := lookR_mem this.symm
        rcases List.mem_cons.1 hp with rfl | hp
        · exact ltB_irrefl _ (hpe ▸ hl)
        · exact ltB_irrefl _ (ltB_trans hl (hpe ▸ hq'.1 p hp))
      · exact he
      · exfalso
        have := h q.pre
        rw [lookR_cons q, if_pos rfl] at this
        obtain ⟨p, hp, hpe, _⟩ := lookR_mem this
        rcases List.mem_cons.1 hp with rfl | hp
        · exact ltB_irrefl _ (hpe ▸ hl)
        · exact ltB_irrefl _ (ltB_trans hl (hpe ▸ hr'.1 p hp))
    have ht : r.target = q.target := by
      have := h r.pre
      rw [lookR_cons, if_pos rfl, lookR_cons, if_pos e.symm] at this
      exact Option.some.inj this
    have hrest : rs = qs := sorted_ext hr'.2 hq'.2 (fun s => by
      have hs := h s
      rw [lookR_cons, lookR_cons] at hs
      by_cases hse : r.pre = s
      · have h1 : lookR rs s = none := lookR_none.2 (fun p hp hpe => ltB_irrefl s (by have := hr'.1 p hp; rwa [hpe, hse] at this))
        have h2 : lookR qs s = none := lookR_none.2 (fun p hp hpe => ltB_irrefl s (by have := hq'.1 p hp; rwa [hpe, ← e, hse] at this))
        rw [h1, h2]
      · rw [if_neg hse, if_neg (e ▸ hse)] at hs
        exact hs)
    obtain ⟨rp, rt⟩ := r
    obtain ⟨qp, qt⟩ := q
    simp only at e ht
    rw [e, ht, hrest]

/-- a route is put -/
def putL : List Route → ByteArray → Int → List Route
  | [], s, t => [⟨s, t⟩]
  | r :: rs, s, t => if ltB r.pre s then r :: putL rs s t else if r.pre = s then ⟨s, t⟩ :: rs else ⟨s, t⟩ :: r :: rs
theorem putL_mem {rs : List Route} {s : ByteArray} {t : Int} {r : Route} (h : r ∈ putL rs s t) : r ∈ rs ∨ r = ⟨s, t⟩ := by
  induction rs with
  | nil => simp [putL] at h; exact .inr h
  | cons q rs ih =>
    unfold putL at h
    split at h
    · rcases List.mem_cons.1 h with rfl | h
      · exact .inl (by simp)
      · exact (ih h).imp (fun h => List.mem_cons_of_mem _ h) (fun h => h)
    · split at h
      · rcases List.mem_cons.1 h with rfl | h
        · exact .inr rfl
        · exact .inl (List.mem_cons_of_mem _ h)
      · rcases List.mem_cons.1 h with rfl | h
        · exact .inr rfl
        · exact .inl h
theorem putL_sorted {rs : List Route} (hs : Sorted rs) (s : ByteArray) (t : Int) : Sorted (putL rs s t) := by
  induction rs with
  | nil => simp [putL]
  | cons r rs ih =>
    have hs' := List.pairwise_cons.1 hs
    unfold putL
    split
    · rename_i hl
      refine List.pairwise_cons.2 ⟨fun q hq => ?_, ih hs'.2⟩
      rcases putL_mem hq with hq | rfl
      · exact hs'.1 q hq
      · exact hl
    · split
      · rename_i he
        subst he
        exact List.pairwise_cons.2 ⟨fun q hq => hs'.1 q hq, hs'.2⟩
      · rename_i hl he
        have hlt : ltB s r.pre := by
          rcases ltB_tri s r.pre with h | h | h
          · exact h
          · exact absurd h.symm he
          · exact absurd h hl
        refine List.pairwise_cons.2 ⟨fun q hq => ?_, hs⟩
        rcases List.mem_cons.1 hq with rfl | hq
        · exact hlt
        · exact ltB_trans hlt (hs'.1 q hq)
theorem putL_look {rs : List Route} (hs : Sorted rs) (s : ByteArray) (t : Int) (u : ByteArray) : lookR (putL rs s t) u = if u = s then some t else lookR rs u := by
  induction rs with
  | nil =>
    rw [putL, lookR_cons, lookR_nil]
    by_cases h : u = s
    · rw [if_pos h, if_pos h.symm]
    · rw [if_neg h, if_neg (fun e => h e.symm)]
  | cons r rs ih =>
    have hs' := List.pairwise_cons.1 hs
    unfold putL
    split
    · rename_i hl
      rw [lookR_cons, ih hs'.2, lookR_cons]
      by_cases h1 : r.pre = u
      · rw [if_pos h1, if_pos h1, if_neg]
        intro e
        exact ltB_irrefl s (by rwa [h1, e] at hl)
      · rw [if_neg h1, if_neg h1]
    · split
      · rename_i he
        rw [lookR_cons, lookR_cons]
        by_cases h : u = s
        · rw [if_pos h.symm, if_pos h]
        · rw [if_neg (fun e => h e.symm), if_neg h, if_neg (fun e : r.pre = u => h (e.symm.trans he))]
      · rw [lookR_cons]
        by_cases h : u = s
        · rw [if_pos h.symm, if_pos h]
        · rw [if_neg (fun e => h e.symm), if_neg h]
theorem putL_len {rs : List Route} (hs : Sorted rs) (s : ByteArray) (t : Int) : (putL rs s t).length = if (lookR rs s).isSome then rs.length else rs.length + 1 := by
  induction rs with
  | nil => rfl
  | cons r rs ih =>
    have hs' := List.pairwise_cons.1 hs
    unfold putL
    split
    · rename_i hl
      have hne : r.pre ≠ s := fun e => ltB_irrefl s (by rwa [e] at hl)
      rw [List.length_cons, ih hs'.2, lookR_cons, if_neg hne, List.length_cons]
      split <;> rfl
    · split
      · rename_i he
        rw [lookR_cons, if_pos he]
        rfl
      · rename_i hl he
        have hlt : ltB s r.pre := by
          rcases ltB_tri s r.pre with h | h | h
          · exact h
          · exact absurd h.symm he
          · exact absurd h hl
        have hn : lookR (r :: rs) s = none := lookR_none.2 (fun p hp hpe => by
          rcases List.mem_cons.1 hp with rfl | hp
          · exact he hpe
          · exact ltB_irrefl s (ltB_trans hlt (hpe ▸ hs'.1 p hp)))
        rw [hn]
        rfl
/-- a route is dropped -/
def dropL (rs : List Route) (s : ByteArray) : List Route := rs.filter (fun r => decide (r.pre ≠ s))
theorem dropL_sorted {rs : List Route} (hs : Sorted rs) (s : ByteArray) : Sorted (dropL rs s) := hs.filter _
theorem dropL_look (rs : List Route) (s : ByteArray) (u : ByteArray) : lookR (dropL rs s) u = if u = s then none else lookR rs u := by
  induction rs with
  | nil => unfold dropL; simp [lookR_nil]
  | cons r rs ih =>
    unfold dropL at ih ⊢
    rw [List.filter_cons]
    by_cases h : r.pre = s
    · rw [if_neg (by simp [h]), ih, lookR_cons]
      by_cases hu : u = s
      · rw [if_pos hu, if_pos hu]
      · rw [if_neg hu, if_neg hu, if_neg (fun e : r.pre = u => hu (e.symm.trans h))]
    · rw [if_pos (by simp [h]), lookR_cons, ih, lookR_cons]
      by_cases h1 : r.pre = u
      · rw [if_pos h1, if_pos h1, if_neg (fun e => h (h1.trans e))]
      · rw [if_neg h1, if_neg h1]
theorem dropL_len {rs : List Route} (hs : Sorted rs) (s : ByteArray) : (dropL rs s).length = if (lookR rs s).isSome then rs.length - 1 else rs.length := by
  induction rs with
  | nil => rfl
  | cons r rs ih =>
    have hs' := List.pairwise_cons.1 hs
    have ih := ih hs'.2
    unfold dropL at ih ⊢
    rw [List.filter_cons, lookR_cons]
    by_cases h : r.pre = s
    · rw [if_neg (by simp [h]), if_pos h, ih]
      have : lookR rs s = none := lookR_none.2 (fun p hp hpe => ltB_irrefl s (by have := hs'.1 p hp; rwa [hpe, h] at this))
      rw [this]
      simp
    · rw [if_pos (by simp [h]), if_neg h, List.length_cons, ih]
      split
      · rename_i hsm
        obtain ⟨x, hx⟩ := Option.isSome_iff_exists.1 hsm
        obtain ⟨p, hp, _⟩ := lookR_mem hx
        have := List.length_pos_of_mem hp
        simp; omega
      · simp

/-- the beginning of a text -/
def headS (s : ByteArray) (n : Nat) : ByteArray := s.extract 0 n
def findN (rs : List Route) (s : ByteArray) : Nat → Option Int
  | 0 => none
  | n + 1 => match lookR rs (headS s (n + 1)) with
    | some t => some t
    | none => findN rs s n
def findR (rs : List Route) (s : ByteArray) : Option Int := findN rs s (min s.size 8)
theorem findN_some {rs : List Route} {s : ByteArray} {N : Nat} {t : Int} : findN rs s N = some t ↔ ∃ n, 0 < n ∧ n ≤ N ∧ lookR rs (headS s n) = some t ∧ ∀ m, n < m → m ≤ N → lookR rs (headS s m) = none := by
  induction N with
  | zero => simp [findN]; intro n h1 h2; omega
  | succ N ih =>
    unfold findN
    cases h : lookR rs (headS s (N + 1)) with
    | some x =>
      simp only [Option.some.injEq]
      constructor
      · rintro rfl
        exact ⟨N + 1, by omega, Nat.le_refl _, h, fun m h1 h2 => by omega⟩
      · rintro ⟨n, h1, h2, h3, h4⟩
        by_cases e : n = N + 1
        · subst e; rw [h] at h3; exact Option.some.inj h3
        · have := h4 (N + 1) (by omega) (Nat.le_refl _)
          rw [h] at this; cases this
    | none =>
      simp only
      rw [ih]
      constructor
      · rintro ⟨n, h1, h2, h3, h4⟩
        refine ⟨n, h1, by omega, h3, fun m g1 g2 => ?_⟩
        by_cases e : m = N + 1
        · subst e; exact h
        · exact h4 m g1 (by omega)
      · rintro ⟨n, h1, h2, h3, h4⟩
        refine ⟨n, h1, ?_, h3, fun m g1 g2 => h4 m g1 (by omega)⟩
        by_cases e : n = N + 1
        · subst e; rw [h] at h3; cases h3
        · omega
theorem findN_none {rs : List Route} {s : ByteArray} {N : Nat} : findN rs s N = none ↔ ∀ n, 0 < n → n ≤ N → lookR rs (headS s n) = none := by
  induction N with
  | zero => simp [findN]; intro n h1 h2; omega
  | succ N ih =>
    unfold findN
    cases h : lookR rs (headS s (N + 1)) with
    | some x =>
      simp only [reduceCtorEq, false_iff]
      intro hn
      rw [hn (N + 1) (by omega) (Nat.le_refl _)] at h
      cases h
    | none =>
      simp only
      rw [ih]
      constructor
      · intro hn n h1 h2
        by_cases e : n = N + 1
        · subst e; exact h
        · exact hn n h1 (by omega)
      · exact fun hn n h1 h2 => hn n h1 (by omega)
end Go.Proofs.Ytpdkilfncflngaa
