/-
  LIMITS: uses, rules, books, and what a book's methods reckon (plain).
-/
import Derived.Test.YtkcepppldhaiaaaThing
namespace Go.Proofs.Ytkcepppldhaiaaa
open Go.RowKit

structure Use where
  card : ByteArray
  window : Int
  times : Int
  sum : Int
def Use.cells (u : Use) : List Value := [.string u.card, .int .i64 u.window, .int .i64 u.times, .int .i64 u.sum]
def Use.val (u : Use) : Value := .agg #[.string u.card, .int .i64 u.window, .int .i64 u.times, .int .i64 u.sum]
def UseR : Rec Use := ⟨4, Use.cells, fun _ => rfl, fun u v hv => by simp [Use.cells] at hv; rcases hv with rfl | rfl | rfl | rfl <;> rfl⟩

structure Rule where
  ticks : Int
  times : Int
  sum : Int
  once : Int
def Rule.val (r : Rule) : Value := .agg #[.int .i64 r.ticks, .int .i64 r.times, .int .i64 r.sum, .int .i64 r.once]

def withinB (most : Int) (l : List Int) : Bool := l.all (fun n => decide (0 ≤ n ∧ n ≤ most))
def Rule.right (r : Rule) : Bool := decide (0 < r.ticks) && withinB 1099511627776 [r.ticks] && withinB 999999999999 [r.times, r.sum, r.once]
def cardB (s : ByteArray) : Bool := !s.toList.isEmpty && decide (s.size ≤ 32)
def mayB (r : Rule) (s : ByteArray) (amount now : Int) : Bool := r.right && cardB s && withinB 999999999999 [amount] && withinB 1099511627776 [now]

theorem right_iff {r : Rule} : r.right = true ↔ (1 ≤ r.ticks ∧ r.ticks ≤ 1099511627776 ∧ 0 ≤ r.times ∧ r.times ≤ 999999999999 ∧ 0 ≤ r.sum ∧ r.sum ≤ 999999999999 ∧ 0 ≤ r.once ∧ r.once ≤ 999999999999) := by
  simp only [Rule.right, withinB, List.all_cons, List.all_nil, Bool.and_true, Bool.and_eq_true, decide_eq_true_eq]
  omega
theorem may_iff {r : Rule} {s : ByteArray} {a n : Int} : mayB r s a n = true ↔ (r.right = true ∧ cardB s = true ∧ 0 ≤ a ∧ a ≤ 999999999999 ∧ 0 ≤ n ∧ n ≤ 1099511627776) := by
  simp only [mayB, withinB, List.all_cons, List.all_nil, Bool.and_true, Bool.and_eq_true, decide_eq_true_eq]
  constructor
  · rintro ⟨⟨⟨h1, h2⟩, h3, h4⟩, h5, h6⟩; exact ⟨h1, h2, h3, h4, h5, h6⟩
  · rintro ⟨h1, h2, h3, h4, h5, h6⟩; exact ⟨⟨⟨h1, h2⟩, h3, h4⟩, h5, h6⟩

/-- a card's place -/
def findU (us : List Use) (s : ByteArray) : Option Nat := us.findIdx? (fun u => decide (u.card = s))
/-- a use of another window -/
def findW (us : List Use) (w : Int) : Option Nat := us.findIdx? (fun u => decide (u.window ≠ w))
def idxI (o : Option Nat) : Int := match o with | some k => k | none => -1

/-- what a card has used in a window -/
def curU (us : List Use) (s : ByteArray) (win : Int) : Use :=
  match us.find? (fun u => decide (u.card = s)) with
  | some u => if u.window = win then u else ⟨s, win, 0, 0⟩
  | none => ⟨s, win, 0, 0⟩
def addU (u : Use) (amount : Int) : Use := ⟨u.card, u.window, u.times + 1, u.sum + amount⟩
def fullB (us : List Use) (s : ByteArray) (win : Int) : Bool := (findU us s).isNone && decide (16 ≤ us.length) && (findW us win).isNone

def tryE (us : List Use) (r : Rule) (s : ByteArray) (amount now : Int) : Int :=
  if mayB r s amount now = false then 1
  else if r.once < amount then 17
  else if r.times ≤ (curU us s (now / r.ticks)).times then 18
  else if r.sum - amount < (curU us s (now / r.ticks)).sum then 17
  else if fullB us s (now / r.ticks) = true then 14
  else 0
/-- room for one more -/
def roomL (us : List Use) (win : Int) : List Use := if us.length < 16 then us else match findW us win with | some k => us.eraseIdx k | none => us
def tryL (us : List Use) (r : Rule) (s : ByteArray) (amount now : Int) : List Use :=
  if tryE us r s amount now = 0 then
    match findU us s with
    | some k => us.set k (addU (curU us s (now / r.ticks)) amount)
    | none => roomL us (now / r.ticks) ++ [addU (curU us s (now / r.ticks)) amount]
  else us

def undoE (us : List Use) (r : Rule) (s : ByteArray) (amount th : Int) : Int :=
  if mayB r s amount th = false then 1
  else match us.find? (fun u => decide (u.card = s)) with
    | none => 15
    | some u => if u.window ≠ th / r.ticks ∨ u.times = 0 ∨ u.sum < amount then 15 else 0
def subU (amount : Int) (u : Use) : Use := ⟨u.card, u.window, u.times - 1, u.sum - amount⟩
def undoL (us : List Use) (r : Rule) (s : ByteArray) (amount th : Int) : List Use :=
  if undoE us r s amount th = 0 then
    match findU us s with
    | some k => us.modify k (subU amount)
    | none => us
  else us

/-- what every use of a book is -/
structure UseOk (u : Use) : Prop where
  card : cardB u.card = true
  win : 0 ≤ u.window
  t0 : 0 ≤ u.times
  t1 : u.times ≤ 1125899906842624
  s0 : 0 ≤ u.sum
  s1 : u.sum ≤ 1125899906842624
structure GoodU (us : List Use) : Prop where
  each : ∀ u ∈ us, UseOk u
  cards : (us.map Use.card).Nodup
  len : us.length ≤ 16

theorem GoodU.nil : GoodU [] := ⟨by simp, by simp, by simp⟩
theorem find_of_findU {us : List Use} {s : ByteArray} {k : Nat} (h : findU us s = some k) : ∃ hk : k < us.length, us[k].card = s ∧ us.find? (fun u => decide (u.card = s)) = some us[k] := by
  unfold findU at h
  have h' := h
  rw [List.findIdx?_eq_some_iff_getElem] at h
  obtain ⟨hlt, h1, h2⟩ := h
  refine ⟨hlt, by simpa using h1, ?_⟩
  rw [List.find?_eq_some_iff_getElem]
  exact ⟨h1, k, hlt, rfl, fun j hj => by simpa using h2 j hj⟩
theorem find_of_none {us : List Use} {s : ByteArray} (h : findU us s = none) : us.find? (fun u => decide (u.card = s)) = none := by
  unfold findU at h
  rw [List.findIdx?_eq_none_iff] at h
  simpa using h
theorem findU_none {us : List Use} {s : ByteArray} : findU us s = none ↔ ∀ u ∈ us, u.card ≠ s := by
  unfold findU
  simp
theorem findW_none {us : List Use} {w : Int} : findW us w = none ↔ ∀ u ∈ us, u.window = w := by
  unfold findW
  simp
theorem cur_some {us : List Use} {s : ByteArray} {k : Nat} (h : findU us s = some k) (win : Int) : ∃ hk : k < us.length, curU us s win = if us[k].window = win then us[k] else ⟨s, win, 0, 0⟩ := by
  obtain ⟨hk, _, h2⟩ := find_of_findU h
  exact ⟨hk, by simp [curU, h2]⟩
theorem cur_none {us : List Use} {s : ByteArray} (h : findU us s = none) (win : Int) : curU us s win = ⟨s, win, 0, 0⟩ := by
  simp [curU, find_of_none h]
theorem cur_card (us : List Use) (s : ByteArray) (win : Int) : (curU us s win).card = s ∧ (curU us s win).window = win := by
  cases h : findU us s with
  | none => rw [cur_none h]; exact ⟨rfl, rfl⟩
  | some k =>
    obtain ⟨hk, h1, _⟩ := find_of_findU h
    obtain ⟨_, h2⟩ := cur_some h win
    rw [h2]; split
    · exact ⟨h1, by assumption⟩
    · exact ⟨rfl, rfl⟩
theorem cur_ok {us : List Use} (hg : GoodU us) (s : ByteArray) (win : Int) : 0 ≤ (curU us s win).times ∧ (curU us s win).times ≤ 1125899906842624 ∧ 0 ≤ (curU us s win).sum ∧ (curU us s win).sum ≤ 1125899906842624 := by
  cases h : findU us s with
  | none => rw [cur_none h]; simp
  | some k =>
    obtain ⟨hk, h2⟩ := cur_some h win
    have := hg.each _ (List.getElem_mem hk)
    rw [h2]; split
    · exact ⟨this.t0, this.t1, this.s0, this.s1⟩
    · simp
theorem tryE_zero {us : List Use} {r : Rule} {s : ByteArray} {a n : Int} (h : tryE us r s a n = 0) :
    mayB r s a n = true ∧ a ≤ r.once ∧ (curU us s (n / r.ticks)).times < r.times ∧ (curU us s (n / r.ticks)).sum ≤ r.sum - a ∧ fullB us s (n / r.ticks) = false := by
  unfold tryE at h
  split at h
  · simp at h
  rename_i h1
  split at h
  · simp at h
  rename_i h2
  split at h
  · simp at h
  rename_i h3
  split at h
  · simp at h
  rename_i h4
  split at h
  · simp at h
  rename_i h5
  exact ⟨by simpa using h1, by omega, by omega, by omega, by simpa using h5⟩

theorem add_ok' {us : List Use} (hg : GoodU us) {r : Rule} {s : ByteArray} {a n : Int} (h : tryE us r s a n = 0) : UseOk (addU (curU us s (n / r.ticks)) a) := by
  obtain ⟨h1, h2, h3, h4, _⟩ := tryE_zero h
  obtain ⟨hr, hc, ha0, ha1, hn0, hn1⟩ := may_iff.1 h1
  obtain ⟨c1, c2, c3, c4⟩ := cur_ok hg s (n / r.ticks)
  obtain ⟨e1, e2⟩ := cur_card us s (n / r.ticks)
  obtain ⟨t1, t2, t3, t4, t5, t6, t7, t8⟩ := right_iff.1 hr
  have hw : 0 ≤ n / r.ticks := Int.ediv_nonneg hn0 (by omega)
  refine ⟨?_, ?_, ?_, ?_, ?_, ?_⟩
  · show cardB (curU us s (n / r.ticks)).card = true
    rw [e1]; exact hc
  · show 0 ≤ (curU us s (n / r.ticks)).window
    rw [e2]; exact hw
  · show 0 ≤ (curU us s (n / r.ticks)).times + 1; omega
  · show (curU us s (n / r.ticks)).times + 1 ≤ _; omega
  · show 0 ≤ (curU us s (n / r.ticks)).sum + a; omega
  · show (curU us s (n / r.ticks)).sum + a ≤ _; omega
theorem room_mem {us : List Use} {w : Int} {u : Use} (h : u ∈ roomL us w) : u ∈ us := by
  unfold roomL at h
  split at h
  · exact h
  · split at h
    · exact List.mem_of_mem_eraseIdx h
    · exact h
theorem room_sub (us : List Use) (w : Int) : (roomL us w).Sublist us := by
  unfold roomL
  split
  · exact List.Sublist.refl _
  · split
    · exact List.eraseIdx_sublist _ _
    · exact List.Sublist.refl _
theorem room_len {us : List Use} {s : ByteArray} {w : Int} (hl : us.length ≤ 16) (hn : findU us s = none) (hf : fullB us s w = false) : (roomL us w).length < 16 := by
  unfold roomL
  split
  · assumption
  · split
    · rename_i k hk
      unfold findW at hk
      rw [List.findIdx?_eq_some_iff_getElem] at hk
      obtain ⟨hlt, _⟩ := hk
      rw [List.length_eraseIdx, if_pos hlt]; omega
    · rename_i h1 h2
      simp [fullB, hn, h2] at hf
      omega
theorem map_set' (us : List Use) (k : Nat) (u : Use) (hk : k < us.length) (he : u.card = us[k].card) : (us.set k u).map Use.card = us.map Use.card := by
  induction us generalizing k with
  | nil => simp
  | cons v us ih =>
    cases k with
    | zero => simp at he ⊢; exact he
    | succ k =>
      have := ih k (by simpa using hk) (by simpa using he)
      rw [List.set_cons_succ, List.map_cons, List.map_cons, this]
theorem mem_set' {us : List Use} {k : Nat} {u v : Use} (h : v ∈ us.set k u) : v ∈ us ∨ v = u := by
  rw [List.mem_iff_getElem] at h
  obtain ⟨i, hi, rfl⟩ := h
  rw [List.getElem_set]
  split
  · exact .inr rfl
  · exact .inl (List.getElem_mem _)
theorem good_try {us : List Use} (hg : GoodU us) (r : Rule) (s : ByteArray) (a n : Int) : GoodU (tryL us r s a n) := by
  unfold tryL
  split
  · rename_i h0
    have hok := add_ok' hg h0
    obtain ⟨h1, h2, h3, h4, hf⟩ := tryE_zero h0
    obtain ⟨e1, e2⟩ := cur_card us s (n / r.ticks)
    cases hfu : findU us s with
    | some k =>
      obtain ⟨hk, hc, _⟩ := find_of_findU hfu
      refine ⟨?_, ?_, by simpa using hg.len⟩
      · intro u hu
        rcases mem_set' hu with hu | rfl
        · exact hg.each u hu
        · exact hok
      · rw [map_set' us k _ hk (by show (curU us s (n / r.ticks)).card = _; rw [e1, hc])]; exact hg.cards
    | none =>
      have hlen := room_len hg.len hfu hf
      rw [findU_none] at hfu
      refine ⟨?_, ?_, ?_⟩
      · intro u hu
        rcases List.mem_append.1 hu with hu | hu
        · exact hg.each u (room_mem hu)
        · simp at hu; subst hu; exact hok
      · rw [List.map_append, List.nodup_append]
        refine ⟨hg.cards.sublist ((room_sub us _).map _), by simp, ?_⟩
        intro x hx y hy
        simp at hy
        subst hy
        obtain ⟨q, hq, rfl⟩ := List.mem_map.1 hx
        show q.card ≠ (curU us s (n / r.ticks)).card
        rw [e1]
        exact hfu q (room_mem hq)
      · simp; omega
  · exact hg
theorem undoE_zero {us : List Use} {r : Rule} {s : ByteArray} {a n : Int} (h : undoE us r s a n = 0) : ∃ k, ∃ hk : k < us.length, findU us s = some k ∧ mayB r s a n = true ∧ us[k].card = s ∧ us[k].window = n / r.ticks ∧ us[k].times ≠ 0 ∧ a ≤ us[k].sum := by
  unfold undoE at h
  split at h
  · simp at h
  rename_i h1
  cases hf : findU us s with
  | none => rw [find_of_none hf] at h; simp at h
  | some k =>
    obtain ⟨hk, hc, h2⟩ := find_of_findU hf
    rw [h2] at h
    simp only at h
    split at h
    · simp at h
    · rename_i hn
      simp only [not_or, Decidable.not_not] at hn
      exact ⟨k, hk, rfl, by simpa using h1, hc, hn.1, hn.2.1, by omega⟩
theorem modify_eq_set {α : Type} (f : α → α) (us : List α) (k : Nat) (hk : k < us.length) : us.modify k f = us.set k (f us[k]) := by
  induction us generalizing k with
  | nil => simp at hk
  | cons u us ih => cases k with
    | zero => simp
    | succ k => simp [List.modify_succ_cons, ih k (by simpa using hk)]
theorem good_undo {us : List Use} (hg : GoodU us) (r : Rule) (s : ByteArray) (a n : Int) : GoodU (undoL us r s a n) := by
  unfold undoL
  split
  · rename_i h0
    obtain ⟨k, hk, hf, hm, hc, hw, ht, hs⟩ := undoE_zero h0
    obtain ⟨_, _, ha0, _⟩ := may_iff.1 hm
    rw [hf]
    simp only
    rw [modify_eq_set _ _ _ hk]
    have hu := hg.each _ (List.getElem_mem hk)
    refine ⟨?_, ?_, by simpa using hg.len⟩
    · intro u hu'
      rcases mem_set' hu' with hu' | rfl
      · exact hg.each u hu'
      · have h1 := hu.t0; have h2 := hu.t1; have h3 := hu.s0; have h4 := hu.s1
        exact ⟨hu.card, hu.win, by simp only [subU]; omega, by simp only [subU]; omega, by simp only [subU]; omega, by simp only [subU]; omega⟩
    · rw [map_set' us k (subU a us[k]) hk rfl]; exact hg.cards
  · exact hg

/-- the program's book, the document's -/
def BookAt (l : Nat) (us : List Use) : Thing := fun w F => Hold 53 40 UseR l us w F ∧ GoodU us
def RBookAt (l : Nat) (us : List Use) : Thing := fun w F => Hold 49 40 UseR l us w F ∧ GoodU us
theorem BookAt.ok {l : Nat} {us : List Use} : (BookAt l us).Ok := ⟨fun h => Hold.ok.lt h.1, fun h hf hs => ⟨Hold.ok.fr h.1 hf hs, h.2⟩⟩
theorem RBookAt.ok {l : Nat} {us : List Use} : (RBookAt l us).Ok := ⟨fun h => Hold.ok.lt h.1, fun h hf hs => ⟨Hold.ok.fr h.1 hf hs, h.2⟩⟩
end Go.Proofs.Ytkcepppldhaiaaa
