/-
  THE WALKS of room, Try.
-/
import Derived.Deep.QuietTactic
import Derived.Shelf.Abstract
import Derived.BigQuiet
import Derived.Deep.RegionLaw
import Derived.Deep.AppendLies
import Derived.Deep.RegionHeld3
import Derived.Deep.DeepCutAuto
import Derived.Deep.CutBlock
import Derived.Deep.LoopGhost
import Derived.Test.YtajhgejhdalobaaGreatDoorRow2
namespace Go.Proofs.YtajhgejhdalobaaGreatDoor.Lm
open Go.RowKit

structure Use where
  card : ByteArray
  window : Int
  times : Int
  sum : Int
def Use.cells (u : Use) : List Value := [.string u.card, .int .i64 u.window, .int .i64 u.times, .int .i64 u.sum]
def Use.val (u : Use) : Value := .agg #[.string u.card, .int .i64 u.window, .int .i64 u.times, .int .i64 u.sum]
def UseR : Rec Use := ⟨4, Use.cells, fun _ => rfl, fun u v hv => by simp [Use.cells] at hv; rcases hv with rfl | rfl | rfl | rfl <;> rfl⟩

structure Rule where
  ticks : Int
  times : Int
  sum : Int
  once : Int
def Rule.val (r : Rule) : Value := .agg #[.int .i64 r.ticks, .int .i64 r.times, .int .i64 r.sum, .int .i64 r.once]

def withinB (most : Int) (l : List Int) : Bool := l.all (fun n => decide (0 ≤ n ∧ n ≤ most))
def Rule.right (r : Rule) : Bool := decide (0 < r.ticks) && withinB 1099511627776 [r.ticks] && withinB 999999999999 [r.times, r.sum, r.once]
def cardB (s : ByteArray) : Bool := !s.toList.isEmpty && decide (s.size ≤ 32)
def mayB (r : Rule) (s : ByteArray) (amount now : Int) : Bool := r.right && cardB s && withinB 999999999999 [amount] && withinB 1099511627776 [now]

theorem right_iff {r : Rule} : r.right = true ↔ (1 ≤ r.ticks ∧ r.ticks ≤ 1099511627776 ∧ 0 ≤ r.times ∧ r.times ≤ 999999999999 ∧ 0 ≤ r.sum ∧ r.sum ≤ 999999999999 ∧ 0 ≤ r.once ∧ r.once ≤ 999999999999) := by
  simp only [Rule.right, withinB, List.all_cons, List.all_nil, Bool.and_true, Bool.and_eq_true, decide_eq_true_eq]
  omega
theorem may_iff {r : Rule} {s : ByteArray} {a n : Int} : mayB r s a n = true ↔ (r.right = true ∧ cardB s = true ∧ 0 ≤ a ∧ a ≤ 999999999999 ∧ 0 ≤ n ∧ n ≤ 1099511627776) := by
  simp only [mayB, withinB, List.all_cons, List.all_nil, Bool.and_true, Bool.and_eq_true, decide_eq_true_eq]
  constructor
  · rintro ⟨⟨⟨h1, h2⟩, h3, h4⟩, h5, h6⟩; exact ⟨h1, h2, h3, h4, h5, h6⟩
  · rintro ⟨h1, h2, h3, h4, h5, h6⟩; exact ⟨⟨⟨h1, h2⟩, h3, h4⟩, h5, h6⟩

def findU (us : List Use) (s : ByteArray) : Option Nat := us.findIdx? (fun u => decide (u.card = s))
def findW (us : List Use) (w : Int) : Option Nat := us.findIdx? (fun u => decide (u.window ≠ w))
def idxI (o : Option Nat) : Int := match o with | some k => k | none => -1

def curU (us : List Use) (s : ByteArray) (win : Int) : Use :=
  match us.find? (fun u => decide (u.card = s)) with
  | some u => if u.window = win then u else ⟨s, win, 0, 0⟩
  | none => ⟨s, win, 0, 0⟩
def addU (u : Use) (amount : Int) : Use := ⟨u.card, u.window, u.times + 1, u.sum + amount⟩
def fullB (us : List Use) (s : ByteArray) (win : Int) : Bool := (findU us s).isNone && decide (16 ≤ us.length) && (findW us win).isNone

def tryE (us : List Use) (r : Rule) (s : ByteArray) (amount now : Int) : Int :=
  if mayB r s amount now = false then 1
  else if r.once < amount then 17
  else if r.times ≤ (curU us s (now / r.ticks)).times then 18
  else if r.sum - amount < (curU us s (now / r.ticks)).sum then 17
  else if fullB us s (now / r.ticks) = true then 14
  else 0
def roomL (us : List Use) (win : Int) : List Use := if us.length < 16 then us else match findW us win with | some k => us.eraseIdx k | none => us
def tryL (us : List Use) (r : Rule) (s : ByteArray) (amount now : Int) : List Use :=
  if tryE us r s amount now = 0 then
    match findU us s with
    | some k => us.set k (addU (curU us s (now / r.ticks)) amount)
    | none => roomL us (now / r.ticks) ++ [addU (curU us s (now / r.ticks)) amount]
  else us

def undoE (us : List Use) (r : Rule) (s : ByteArray) (amount th : Int) : Int :=
  if mayB r s amount th = false then 1
  else match us.find? (fun u => decide (u.card = s)) with
    | none => 15
    | some u => if u.window ≠ th / r.ticks ∨ u.times = 0 ∨ u.sum < amount then 15 else 0
def subU (amount : Int) (u : Use) : Use := ⟨u.card, u.window, u.times - 1, u.sum - amount⟩
def undoL (us : List Use) (r : Rule) (s : ByteArray) (amount th : Int) : List Use :=
  if undoE us r s amount th = 0 then
    match findU us s with
    | some k => us.modify k (subU amount)
    | none => us
  else us

structure UseOk (u : Use) : Prop where
  card : cardB u.card = true
  win : 0 ≤ u.window
  t0 : 0 ≤ u.times
  t1 : u.times ≤ 1125899906842624
  s0 : 0 ≤ u.sum
  s1 : u.sum ≤ 1125899906842624
structure GoodU (us : List Use) : Prop where
  each : ∀ u ∈ us, UseOk u
  cards : (us.map Use.card).Nodup
  len : us.length ≤ 16

theorem GoodU.nil : GoodU [] := ⟨by simp, by simp, by simp⟩
theorem find_of_findU {us : List Use} {s : ByteArray} {k : Nat} (h : findU us s = some k) : ∃ hk : k < us.length, us[k].card = s ∧ us.find? (fun u => decide (u.card = s)) = some us[k] := by
  unfold findU at h
  have h' := h
  rw [List.findIdx?_eq_some_iff_getElem] at h
  obtain ⟨hlt, h1, h2⟩ := h
  refine ⟨hlt, by simpa using h1, ?_⟩
  rw [List.find?_eq_some_iff_getElem]
  exact ⟨h1, k, hlt, rfl, fun j hj => by simpa using h2 j hj⟩
theorem find_of_none {us : List Use} {s : ByteArray} (h : findU us s = none) : us.find? (fun u => decide (u.card = s)) = none := by
  unfold findU at h
  rw [List.findIdx?_eq_none_iff] at h
  simpa using h
theorem findU_none {us : List Use} {s : ByteArray} : findU us s = none ↔ ∀ u ∈ us, u.card ≠ s := by
  unfold findU
  simp
theorem cur_some {us : List Use} {s : ByteArray} {k : Nat} (h : findU us s = some k) (win : Int) : ∃ hk : k < us.length, curU us s win = if us[k].window = win then us[k] else ⟨s, win, 0, 0⟩ := by
  obtain ⟨hk, _, h2⟩ := find_of_findU h
  exact ⟨hk, by simp [curU, h2]⟩
theorem cur_none {us : List Use} {s : ByteArray} (h : findU us s = none) (win : Int) : curU us s win = ⟨s, win, 0, 0⟩ := by
  simp [curU, find_of_none h]
theorem cur_card (us : List Use) (s : ByteArray) (win : Int) : (curU us s win).card = s ∧ (curU us s win).window = win := by
  cases h : findU us s with
  | none => rw [cur_none h]; exact ⟨rfl, rfl⟩
  | some k =>
    obtain ⟨hk, h1, _⟩ := find_of_findU h
    obtain ⟨_, h2⟩ := cur_some h win
    rw [h2]; split
    · exact ⟨h1, by assumption⟩
    · exact ⟨rfl, rfl⟩
theorem cur_ok {us : List Use} (hg : GoodU us) (s : ByteArray) (win : Int) : 0 ≤ (curU us s win).times ∧ (curU us s win).times ≤ 1125899906842624 ∧ 0 ≤ (curU us s win).sum ∧ (curU us s win).sum ≤ 1125899906842624 := by
  cases h : findU us s with
  | none => rw [cur_none h]; simp
  | some k =>
    obtain ⟨hk, h2⟩ := cur_some h win
    have := hg.each _ (List.getElem_mem hk)
    rw [h2]; split
    · exact ⟨this.t0, this.t1, this.s0, this.s1⟩
    · simp
theorem tryE_zero {us : List Use} {r : Rule} {s : ByteArray} {a n : Int} (h : tryE us r s a n = 0) :
    mayB r s a n = true ∧ a ≤ r.once ∧ (curU us s (n / r.ticks)).times < r.times ∧ (curU us s (n / r.ticks)).sum ≤ r.sum - a ∧ fullB us s (n / r.ticks) = false := by
  unfold tryE at h
  split at h
  · simp at h
  rename_i h1
  split at h
  · simp at h
  rename_i h2
  split at h
  · simp at h
  rename_i h3
  split at h
  · simp at h
  rename_i h4
  split at h
  · simp at h
  rename_i h5
  exact ⟨by simpa using h1, by omega, by omega, by omega, by simpa using h5⟩

theorem add_ok' {us : List Use} (hg : GoodU us) {r : Rule} {s : ByteArray} {a n : Int} (h : tryE us r s a n = 0) : UseOk (addU (curU us s (n / r.ticks)) a) := by
  obtain ⟨h1, h2, h3, h4, _⟩ := tryE_zero h
  obtain ⟨hr, hc, ha0, ha1, hn0, hn1⟩ := may_iff.1 h1
  obtain ⟨c1, c2, c3, c4⟩ := cur_ok hg s (n / r.ticks)
  obtain ⟨e1, e2⟩ := cur_card us s (n / r.ticks)
  obtain ⟨t1, t2, t3, t4, t5, t6, t7, t8⟩ := right_iff.1 hr
  have hw : 0 ≤ n / r.ticks := Int.ediv_nonneg hn0 (by omega)
  refine ⟨?_, ?_, ?_, ?_, ?_, ?_⟩
  · show cardB (curU us s (n / r.ticks)).card = true
    rw [e1]; exact hc
  · show 0 ≤ (curU us s (n / r.ticks)).window
    rw [e2]; exact hw
  · show 0 ≤ (curU us s (n / r.ticks)).times + 1; omega
  · show (curU us s (n / r.ticks)).times + 1 ≤ _; omega
  · show 0 ≤ (curU us s (n / r.ticks)).sum + a; omega
  · show (curU us s (n / r.ticks)).sum + a ≤ _; omega
theorem room_mem {us : List Use} {w : Int} {u : Use} (h : u ∈ roomL us w) : u ∈ us := by
  unfold roomL at h
  split at h
  · exact h
  · split at h
    · exact List.mem_of_mem_eraseIdx h
    · exact h
theorem room_sub (us : List Use) (w : Int) : (roomL us w).Sublist us := by
  unfold roomL
  split
  · exact List.Sublist.refl _
  · split
    · exact List.eraseIdx_sublist _ _
    · exact List.Sublist.refl _
theorem room_len {us : List Use} {s : ByteArray} {w : Int} (hl : us.length ≤ 16) (hn : findU us s = none) (hf : fullB us s w = false) : (roomL us w).length < 16 := by
  unfold roomL
  split
  · assumption
  · split
    · rename_i k hk
      unfold findW at hk
      rw [List.findIdx?_eq_some_iff_getElem] at hk
      obtain ⟨hlt, _⟩ := hk
      rw [List.length_eraseIdx, if_pos hlt]; omega
    · rename_i h1 h2
      simp [fullB, hn, h2] at hf
      omega
theorem map_set' (us : List Use) (k : Nat) (u : Use) (hk : k < us.length) (he : u.card = us[k].card) : (us.set k u).map Use.card = us.map Use.card := by
  induction us generalizing k with
  | nil => simp
  | cons v us ih =>
    cases k with
    | zero => simp at he ⊢; exact he
    | succ k =>
      have := ih k (by simpa using hk) (by simpa using he)
      rw [List.set_cons_succ, List.map_cons, List.map_cons, this]
theorem mem_set' {us : List Use} {k : Nat} {u v : Use} (h : v ∈ us.set k u) : v ∈ us ∨ v = u := by
  rw [List.mem_iff_getElem] at h
  obtain ⟨i, hi, rfl⟩ := h
  rw [List.getElem_set]
  split
  · exact .inr rfl
  · exact .inl (List.getElem_mem _)
theorem good_try {us : List Use} (hg : GoodU us) (r : Rule) (s : ByteArray) (a n : Int) : GoodU (tryL us r s a n) := by
  unfold tryL
  split
  · rename_i h0
    have hok := add_ok' hg h0
    obtain ⟨h1, h2, h3, h4, hf⟩ := tryE_zero h0
    obtain ⟨e1, e2⟩ := cur_card us s (n / r.ticks)
    cases hfu : findU us s with
    | some k =>
      obtain ⟨hk, hc, _⟩ := find_of_findU hfu
      refine ⟨?_, ?_, by simpa using hg.len⟩
      · intro u hu
        rcases mem_set' hu with hu | rfl
        · exact hg.each u hu
        · exact hok
      · rw [map_set' us k _ hk (by show (curU us s (n / r.ticks)).card = _; rw [e1, hc])]; exact hg.cards
    | none =>
      have hlen := room_len hg.len hfu hf
      rw [findU_none] at hfu
      refine ⟨?_, ?_, ?_⟩
      · intro u hu
        rcases List.mem_append.1 hu with hu | hu
        · exact hg.each u (room_mem hu)
        · simp at hu; subst hu; exact hok
      · rw [List.map_append, List.nodup_append]
        refine ⟨hg.cards.sublist ((room_sub us _).map _), by simp, ?_⟩
        intro x hx y hy
        simp at hy
        subst hy
        obtain ⟨q, hq, rfl⟩ := List.mem_map.1 hx
        show q.card ≠ (curU us s (n / r.ticks)).card
        rw [e1]
        exact hfu q (room_mem hq)
      · simp; omega
  · exact hg
theorem undoE_zero {us : List Use} {r : Rule} {s : ByteArray} {a n : Int} (h : undoE us r s a n = 0) : ∃ k, ∃ hk : k < us.length, findU us s = some k ∧ mayB r s a n = true ∧ us[k].card = s ∧ us[k].window = n / r.ticks ∧ us[k].times ≠ 0 ∧ a ≤ us[k].sum := by
  unfold undoE at h
  split at h
  · simp at h
  rename_i h1
  cases hf : findU us s with
  | none => rw [find_of_none hf] at h; simp at h
  | some k =>
    obtain ⟨hk, hc, h2⟩ := find_of_findU hf
    rw [h2] at h
    simp only at h
    split at h
    · simp at h
    · rename_i hn
      simp only [not_or, Decidable.not_not] at hn
      exact ⟨k, hk, rfl, by simpa using h1, hc, hn.1, hn.2.1, by omega⟩
theorem modify_eq_set {α : Type} (f : α → α) (us : List α) (k : Nat) (hk : k < us.length) : us.modify k f = us.set k (f us[k]) := by
  induction us generalizing k with
  | nil => simp at hk
  | cons u us ih => cases k with
    | zero => simp
    | succ k => simp [List.modify_succ_cons, ih k (by simpa using hk)]
theorem good_undo {us : List Use} (hg : GoodU us) (r : Rule) (s : ByteArray) (a n : Int) : GoodU (undoL us r s a n) := by
  unfold undoL
  split
  · rename_i h0
    obtain ⟨k, hk, hf, hm, hc, hw, ht, hs⟩ := undoE_zero h0
    obtain ⟨_, _, ha0, _⟩ := may_iff.1 hm
    rw [hf]
    simp only
    rw [modify_eq_set _ _ _ hk]
    have hu := hg.each _ (List.getElem_mem hk)
    refine ⟨?_, ?_, by simpa using hg.len⟩
    · intro u hu'
      rcases mem_set' hu' with hu' | rfl
      · exact hg.each u hu'
      · have h1 := hu.t0; have h2 := hu.t1; have h3 := hu.s0; have h4 := hu.s1
        exact ⟨hu.card, hu.win, by simp only [subU]; omega, by simp only [subU]; omega, by simp only [subU]; omega, by simp only [subU]; omega⟩
    · rw [map_set' us k (subU a us[k]) hk rfl]; exact hg.cards
  · exact hg

def BookAt (l : Nat) (us : List Use) : Thing := fun w F => Hold 213 128 UseR l us w F ∧ GoodU us
def RBookAt (l : Nat) (us : List Use) : Thing := fun w F => Hold 165 128 UseR l us w F ∧ GoodU us
theorem BookAt.ok {l : Nat} {us : List Use} : (BookAt l us).Ok := ⟨fun h => Hold.ok.lt h.1, fun h hf hs => ⟨Hold.ok.fr h.1 hf hs, h.2⟩⟩
theorem RBookAt.ok {l : Nat} {us : List Use} : (RBookAt l us).Ok := ⟨fun h => Hold.ok.lt h.1, fun h hf hs => ⟨Hold.ok.fr h.1 hf hs, h.2⟩⟩
end Go.Proofs.YtajhgejhdalobaaGreatDoor.Lm
namespace Go.Proofs.YtajhgejhdalobaaGreatDoor.Lm
open Go.RowKit

def IntR : Rec Int := ⟨1, fun n => [.int .i64 n], fun _ => rfl, fun a u h => by simp at h; subst h; rfl⟩

theorem int_cell {w : World} {ao : Option Addr} {xs : List Int} (h : RowRd IntR w ao xs) {i : Nat} (hi : i < xs.length) : ∃ b off, ao = some ⟨b, off, none⟩ ∧ b < w.heap.size ∧ w.cell? ⟨b, off + i, none⟩ = some (.int .i64 xs[i]) := by
  obtain ⟨b, off, h1, h2, h3⟩ := h.at' i hi
  refine ⟨b, off, h1, h2, ?_⟩
  have := h3 0 _ rfl
  simpa [IntR] using this

theorem ret_bool {a b : Bool} (h : a = b) : Ending.returned (.bool a) = .returned (.bool b) := by rw [h]
theorem ret_int {a b : Int} (h : a = b) : Ending.returned (.int .i64 a) = .returned (.int .i64 b) := by rw [h]
set_option maxHeartbeats 400000 in
theorem within1_any (n m : Int) (B : Nat) (w : World) (hc : w.cell? ⟨B, 0, none⟩ = some (.int .i64 m)) :
    Calls Tryz.prog 234 #[.int .i64 n, .pointer (some ⟨B, 0, none⟩)] w fun e w' => e = .returned (.bool (!decide (0 ≤ n ∧ n ≤ m))) ∧ w = w' := by
  by_cases h0 : n < 0
  · go_enter Tryz.func234, Tryz.ntmps234
    go_wp2
    go_ret
    exact ⟨ret_bool (by rw [decide_eq_false (by omega)]; rfl), rfl⟩
  · by_cases h1 : m < n
    · go_enter Tryz.func234, Tryz.ntmps234
      go_wp2
      go_ret
      exact ⟨ret_bool (by rw [decide_eq_false (by omega)]; rfl), rfl⟩
    · go_enter Tryz.func234, Tryz.ntmps234
      go_wp2
      go_ret
      have e : (decide (0 ≤ n ∧ n ≤ m)) = true := decide_eq_true (by omega)
      exact ⟨ret_bool (by first | rfl | (rw [e]; rfl)), rfl⟩

def idxP {α : Type} (p : α → Bool) (xs : List α) : Int := match xs.findIdx? p with | some k => k | none => -1
theorem idxP_hit {α : Type} {p : α → Bool} {xs : List α} {k : Nat} (hk : k < xs.length) (hp : p xs[k] = true) (hn : ∀ x ∈ xs.take k, p x = false) : idxP p xs = k := by
  have : xs.findIdx? p = some k := by
    rw [List.findIdx?_eq_some_iff_getElem]
    refine ⟨hk, hp, fun j hj => ?_⟩
    have := hn (xs[j]'(by omega)) (by rw [List.mem_take_iff_getElem]; exact ⟨j, by omega, rfl⟩)
    simp [this]
  simp [idxP, this]
theorem idxP_miss {α : Type} {p : α → Bool} {xs : List α} (hn : ∀ x ∈ xs, p x = false) : idxP p xs = -1 := by
  have : xs.findIdx? p = none := by rw [List.findIdx?_eq_none_iff]; simpa using hn
  simp [idxP, this]
theorem take_miss {α : Type} {p : α → Bool} {xs : List α} {k : Nat} (hk : k < xs.length) (hp : p xs[k] = false) (hn : ∀ x ∈ xs.take k, p x = false) : ∀ x ∈ xs.take (k + 1), p x = false := by
  intro x hx
  rw [List.take_succ_eq_append_getElem hk, List.mem_append] at hx
  rcases hx with hx | hx
  · exact hn x hx
  · simp at hx; subst hx; exact hp

set_option maxHeartbeats 400000 in
theorem indexI_any (ao : Option Addr) (cap : Nat) (xs : List Int) (g : Nat) (lb : Array Value) (eg : ∀ args w, (callFunc g args).run Tryz.prog w = .ok (.enter g args) w) (p : Int → Bool) (w : World) (ha : RowRd IntR w ao xs)
    (hp : ∀ (W : World) (x : Int), Fr noBlock w W → Calls Tryz.prog g (#[.int .i64 x] ++ lb) W fun e w' => e = .returned (.bool (p x)) ∧ Fr noBlock W w') :
    Calls Tryz.prog 304 #[.slice ao xs.length cap, .func (.func g) #[] lb] w fun e w' => e = .returned (.int .i64 (idxP p xs)) ∧ Fr noBlock w w' := by
  have hl := ha.len
  unfold maxLen at hl
  have Hp := Lib.hid hp
  clear hp
  go_enter Tryz.func304, Tryz.ntmps304
  go_wp2_with fail
  go_loopw [5, 8] (fun s5 s8 wr => ∃ k : Nat, k ≤ xs.length ∧ s8 = .int .i64 k ∧ Fr noBlock w wr ∧ Hid (∀ x ∈ xs.take k, p x = false)) (fun _ s8 _ => xs.length - (intOf s8).toNat)
  case atStart => exact ⟨0, Nat.zero_le _, rfl, Fr.refl _ _, Lib.hid (by simp)⟩
  case round =>
    obtain ⟨k, hk, rfl, hf, hn⟩ := hrel
    by_cases hlt : k < xs.length
    · obtain ⟨b, off, rfl, hb, hc⟩ := int_cell (ha.fr0 hf) hlt
      have h1 : (k : Int) < (xs.length : Int) := by omega
      have hcall := Hp.out wr xs[k] hf
      cases hpk : p xs[k] with
      | true =>
        rw [hpk] at hcall
        have Hc := Lib.hid hcall
        have Hr := Lib.hid (idxP_hit hlt hpk hn.out)
        clear hcall hpk
        generalize xs[k] = x at *
        go_wp2_with fail
        refine Hc.out.mono ?_
        rintro e w' ⟨rfl, hf'⟩
        go_wp2_with fail
        go_ret
        exact ⟨ret_int Hr.out.symm, hf.trans' hf'⟩
      | false =>
        rw [hpk] at hcall
        have Hc := Lib.hid hcall
        have Hn := Lib.hid (take_miss hlt hpk hn.out)
        clear hcall hpk
        generalize xs[k] = x at *
        go_wp2_with fail
        refine Hc.out.mono ?_
        rintro e w' ⟨rfl, hf'⟩
        go_wp2_with fail
        go_roundw
        case rel => exact ⟨k + 1, by omega, by go_num, hf.trans' hf', Hn⟩
        case measure => simp [intOf]; omega
    · have h1 : (xs.length : Int) ≤ (k : Int) := by omega
      have Hr : Hid (idxP p xs = -1) := Lib.hid (idxP_miss (by have := hn.out; rwa [List.take_of_length_le (by omega)] at this))
      go_wp2_with fail
      go_ret
      exact ⟨ret_int Hr.out.symm, hf⟩

theorem idxP_nonneg {α : Type} (p : α → Bool) (xs : List α) : decide (0 ≤ idxP p xs) = xs.any p := by
  unfold idxP
  cases h : xs.findIdx? p with
  | none =>
    rw [List.findIdx?_eq_none_iff] at h
    have : xs.any p = false := by rw [List.any_eq_false]; simpa using h
    rw [this]; rfl
  | some k =>
    rw [List.findIdx?_eq_some_iff_getElem] at h
    obtain ⟨hk, hp, _⟩ := h
    have : xs.any p = true := by rw [List.any_eq_true]; exact ⟨_, List.getElem_mem hk, hp⟩
    rw [this]
    simp

set_option maxHeartbeats 400000 in
theorem containsI_any (ao : Option Addr) (cap : Nat) (xs : List Int) (g : Nat) (lb : Array Value) (eg : ∀ args w, (callFunc g args).run Tryz.prog w = .ok (.enter g args) w) (p : Int → Bool) (w : World) (ha : RowRd IntR w ao xs)
    (hp : ∀ (W : World) (x : Int), Fr noBlock w W → Calls Tryz.prog g (#[.int .i64 x] ++ lb) W fun e w' => e = .returned (.bool (p x)) ∧ Fr noBlock W w') :
    Calls Tryz.prog 233 #[.slice ao xs.length cap, .func (.func g) #[] lb] w fun e w' => e = .returned (.bool (xs.any p)) ∧ Fr noBlock w w' := by
  have Hc := Lib.hid (indexI_any ao cap xs g lb eg p w ha hp)
  have Hn := Lib.hid (idxP_nonneg p xs)
  clear hp
  go_enter Tryz.func233, Tryz.ntmps233
  go_wp2_with fail
  refine Hc.out.mono ?_
  rintro e w' ⟨rfl, hf'⟩
  generalize idxP p xs = i at *
  go_wp2
  go_ret
  exact ⟨ret_bool Hn.out, hf'⟩

theorem any_not_within (most : Int) (xs : List Int) : (!xs.any fun n => !decide (0 ≤ n ∧ n ≤ most)) = withinB most xs := by
  induction xs with
  | nil => rfl
  | cons x xs ih => simp only [List.any_cons, withinB, List.all_cons, Bool.not_or, Bool.not_not] at ih ⊢; rw [ih]

set_option maxHeartbeats 400000 in
theorem within_any (most : Int) (ao : Option Addr) (cap : Nat) (xs : List Int) (w : World) (ha : RowRd IntR w ao xs) (b : Bool) (hb : withinB most xs = b) :
    Calls Tryz.prog 170 #[.int .i64 most, .slice ao xs.length cap] w fun e w' => e = .returned (.bool b) ∧ Fr noBlock w w' := by
  subst hb
  have hf0 := (Fr.refl noBlock w).alloc (.cells #[.int .i64 most] 3)
  have hc := containsI_any ao cap xs 234 #[.pointer (some ⟨w.heap.size, 0, none⟩)] (enters_of Tryz.func234 (by kernel_rfl) rfl) (fun n => !decide (0 ≤ n ∧ n ≤ most)) _ (ha.fr0 hf0) (fun W x hf => by
    have h0 : (w.alloc (.cells #[.int .i64 most] 3)).cell? ⟨w.heap.size, 0, none⟩ = some (.int .i64 most) := by simp
    have h1 : W.cell? ⟨w.heap.size, 0, none⟩ = some (.int .i64 most) := (hf.cell (p := ⟨w.heap.size, 0, none⟩) (by simp) (fun x => x)).trans h0
    exact (within1_any x most w.heap.size W h1).mono fun _ _ ⟨a, b⟩ => ⟨a, b ▸ Fr.refl _ _⟩)
  have Hc := Lib.hid hc
  have Hn := Lib.hid (any_not_within most xs)
  clear hc
  go_enter Tryz.func170, Tryz.ntmps170
  go_wp2_with fail
  refine Hc.out.mono ?_
  rintro e w' ⟨rfl, hf'⟩
  generalize (xs.any fun n => !decide (0 ≤ n ∧ n ≤ most)) = b at *
  go_wp2
  go_ret
  exact ⟨ret_bool Hn.out, hf0.trans' hf'⟩

theorem ints_new {w : World} {b : Nat} (xs : List Int) (h : w.heap[b]? = some (.cells (IntR.flat xs).toArray 3 (0, 0))) (hl : xs.length ≤ maxLen) : RowRd IntR w (some ⟨b, 0, none⟩) xs := by
  refine ⟨hl, fun i hi => ⟨b, 0, rfl, heap_lt h, fun j u hu => ?_⟩⟩
  have hj : j < IntR.k := by have := (List.getElem?_eq_some_iff.1 hu).1; rwa [IntR.len] at this
  rw [cell_of h]
  have := (IntR.flat_get hi hj).trans hu
  simpa using this

set_option maxHeartbeats 400000 in
theorem card_any (s : ByteArray) (b : Bool) (hb : cardB s = b) (w : World) : Calls Tryz.prog 207 #[.string s] w fun e w' => e = .returned (.bool b) ∧ w = w' := by
  subst hb
  unfold cardB
  by_cases h : s.toList = []
  · have h2 : s.toList.isEmpty = true := by rw [h]; rfl
    go_enter Tryz.func207, Tryz.ntmps207
    go_wp2
    go_ret
    exact ⟨ret_bool (by simp [h]), rfl⟩
  · have h2 : s.toList.isEmpty = false := by simpa using h
    by_cases hl : s.size ≤ 32
    all_goals
      go_enter Tryz.func207, Tryz.ntmps207
      go_wp2
      go_ret
      exact ⟨ret_bool (by first | (simp [h]; done) | (simp [h]; omega) | (rw [h2]; simp; omega)), rfl⟩

theorem ints1 (W : World) (a : Int) (b : Nat) (hb : W.heap.size = b) : RowRd IntR (W.alloc (.cells #[.int .i64 a] 3)) (some ⟨b, 0, none⟩) [a] := by
  subst hb; exact ints_new [a] (heap_new W _) (by unfold maxLen; simp)
theorem ints3 (W : World) (a a' a'' : Int) (b : Nat) (hb : W.heap.size = b) : RowRd IntR (W.alloc (.cells #[.int .i64 a, .int .i64 a', .int .i64 a''] 3)) (some ⟨b, 0, none⟩) [a, a', a''] := by
  subst hb; exact ints_new [a, a', a''] (heap_new W _) (by unfold maxLen; simp)

set_option maxHeartbeats 800000 in
theorem right_any (r : Rule) (b : Bool) (hb : r.right = b) (w : World) : Calls Tryz.prog 101 #[r.val] w fun e w' => e = .returned (.bool b) ∧ Fr noBlock w w' := by
  subst hb
  obtain ⟨ticks, times, sum, once⟩ := r
  unfold Rule.val Rule.right
  simp only
  have hf0 := (Fr.refl noBlock w).alloc (.cells #[.int .i64 ticks, .int .i64 times, .int .i64 sum, .int .i64 once] 47)
  by_cases h1 : 0 < ticks
  · generalize hw1 : withinB 1099511627776 [ticks] = b1
    have Hw1 := Lib.hid hw1
    generalize hw2 : withinB 999999999999 [times, sum, once] = b2
    have Hw2 := Lib.hid hw2
    clear hw1 hw2
    have hq : (decide (0 < ticks) && b1 && b2) = (b1 && b2) := by rw [decide_eq_true h1]; rfl
    rw [hq]
    clear hq
    go_enter Tryz.func101, Tryz.ntmps101
    go_wp2_with fail
    refine (within_any _ _ 1 [ticks] _ (ints1 _ ticks _ (by simp)) b1 Hw1.out).mono ?_
    rintro e w1 ⟨rfl, f1⟩
    have f01 := (hf0.alloc (.cells #[.int .i64 ticks] 3)).trans' f1
    have hb0 : w1.heap[w.heap.size]? = some (.cells #[.int .i64 ticks, .int .i64 times, .int .i64 sum, .int .i64 once] 47 (0, 0)) := f1.obj (heap_old _ (heap_new w _)) (fun x => x)
    have y1 := cell_of hb0 1
    have y2 := cell_of hb0 2
    have y3 := cell_of hb0 3
    simp at y1 y2 y3
    clear hb0 f1 hf0
    cases b1
    · go_wp2_with fail
      go_ret
      exact ⟨rfl, f01⟩
    · go_wp2_with fail
      refine (within_any _ _ 3 [times, sum, once] _ (ints3 _ times sum once _ rfl) b2 Hw2.out).mono ?_
      rintro e w2 ⟨rfl, f2⟩
      go_wp2_with fail
      go_ret
      exact ⟨rfl, (f01.alloc _).trans' f2⟩
  · go_enter Tryz.func101, Tryz.ntmps101
    go_wp2
    go_ret
    exact ⟨ret_bool (by rw [decide_eq_false (by omega)]; rfl), hf0⟩

set_option maxHeartbeats 800000 in
theorem may_any (r : Rule) (s : ByteArray) (amount now : Int) (b : Bool) (hb : mayB r s amount now = b) (w : World) :
    Calls Tryz.prog 178 #[r.val, .string s, .int .i64 amount, .int .i64 now] w fun e w' => e = .returned (.bool b) ∧ Fr noBlock w w' := by
  subst hb
  have hf0 := (Fr.refl noBlock w).alloc (.cells #[.int .i64 r.ticks, .int .i64 r.times, .int .i64 r.sum, .int .i64 r.once] 47)
  unfold mayB
  generalize hr : r.right = b0
  generalize hc : cardB s = b1
  generalize hw1 : withinB 999999999999 [amount] = b2
  generalize hw2 : withinB 1099511627776 [now] = b3
  have Hr := Lib.hid hr
  have Hc := Lib.hid hc
  have Hw1 := Lib.hid hw1
  have Hw2 := Lib.hid hw2
  clear hr hc hw1 hw2
  have Hright := Lib.hid (fun W => right_any r b0 Hr.out W)
  obtain ⟨ticks, times, sum, once⟩ := r
  unfold Rule.val at *
  simp only at *
  go_enter Tryz.func178, Tryz.ntmps178
  go_wp2_with fail
  refine (Hright.out _).mono ?_
  rintro e w1 ⟨rfl, f1⟩
  have f01 := hf0.trans' f1
  clear f1 hf0
  cases b0
  · go_wp2_with fail
    go_ret
    exact ⟨rfl, f01⟩
  · go_wp2_with fail
    refine (card_any s b1 Hc.out _).mono ?_
    rintro e w' ⟨rfl, rfl⟩
    cases b1
    · go_wp2_with fail
      go_ret
      exact ⟨rfl, f01⟩
    · go_wp2_with fail
      refine (within_any _ _ 1 [amount] _ (ints1 _ amount _ rfl) b2 Hw1.out).mono ?_
      rintro e w2 ⟨rfl, f2⟩
      have f02 := (f01.alloc _).trans' f2
      clear f2 f01
      cases b2
      · go_wp2_with fail
        go_ret
        exact ⟨rfl, f02⟩
      · go_wp2_with fail
        refine (within_any _ _ 1 [now] _ (ints1 _ now _ rfl) b3 Hw2.out).mono ?_
        rintro e w3 ⟨rfl, f3⟩
        go_wp2_with fail
        go_ret
        exact ⟨rfl, (f02.alloc _).trans' f3⟩
end Go.Proofs.YtajhgejhdalobaaGreatDoor.Lm
namespace Go.Proofs.YtajhgejhdalobaaGreatDoor.Lm
open Go.RowKit

theorem use_cells {w : World} {ao : Option Addr} {us : List Use} (h : RowRd UseR w ao us) {i : Nat} (hi : i < us.length) : ∃ b off, ao = some ⟨b, off, none⟩ ∧ b < w.heap.size ∧
    w.cell? ⟨b, off + i * 4, none⟩ = some (.string us[i].card) ∧ w.cell? ⟨b, off + i * 4 + 1, none⟩ = some (.int .i64 us[i].window) ∧ w.cell? ⟨b, off + i * 4 + 2, none⟩ = some (.int .i64 us[i].times) ∧ w.cell? ⟨b, off + i * 4 + 3, none⟩ = some (.int .i64 us[i].sum) := by
  obtain ⟨b, off, h1, h2, h3⟩ := h.at' i hi
  exact ⟨b, off, h1, h2, h3 0 _ rfl, h3 1 _ rfl, h3 2 _ rfl, h3 3 _ rfl⟩
theorem use_own {w : World} {ao : Option Addr} {n cap : Nat} {us : List Use} (h : RowAt 128 UseR w (.slice ao n cap) us) {i : Nat} (hi : i < us.length) : ∃ g, ao = some ⟨g, 0, none⟩ ∧ g < w.heap.size ∧ n = us.length ∧ n ≤ cap ∧
    w.cell? ⟨g, i * 4, none⟩ = some (.string us[i].card) ∧ w.cell? ⟨g, i * 4 + 1, none⟩ = some (.int .i64 us[i].window) ∧ w.cell? ⟨g, i * 4 + 2, none⟩ = some (.int .i64 us[i].times) ∧ w.cell? ⟨g, i * 4 + 3, none⟩ = some (.int .i64 us[i].sum) ∧ ∀ o, w.frozen? ⟨g, o, none⟩ = false := by
  obtain ⟨g, h1, h2, h3, h4, h5, h6⟩ := h.elem hi
  exact ⟨g, h1, h2, h3, h4, h5 0 _ rfl, h5 1 _ rfl, h5 2 _ rfl, h5 3 _ rfl, h6⟩
theorem str_ne {a b : ByteArray} (h : ¬ a = b) : (a.toList == b.toList) = false := by
  rw [beq_eq_false_iff_ne]
  intro e
  exact h (toList_inj' e)

set_option maxHeartbeats 400000 in
theorem find1_any (u : Use) (s : ByteArray) (B : Nat) (w : World) (hc : w.cell? ⟨B, 0, none⟩ = some (.string s)) (hB : B < w.heap.size) :
    Calls Tryz.prog 243 #[.agg #[.string u.card, .int .i64 u.window, .int .i64 u.times, .int .i64 u.sum], .pointer (some ⟨B, 0, none⟩)] w fun e w' => e = .returned (.bool (decide (u.card = s))) ∧ Fr noBlock w w' := by
  have hf0 := (Fr.refl noBlock w).alloc (.cells #[.string u.card, .int .i64 u.window, .int .i64 u.times, .int .i64 u.sum] 128)
  have hne : B ≠ w.heap.size := by omega
  by_cases h : u.card = s
  · rw [decide_eq_true h]
    subst h
    go_enter Tryz.func243, Tryz.ntmps243
    go_wp2
    go_ret
    exact ⟨ret_bool (by first | rfl | simp), hf0⟩
  · rw [decide_eq_false h]
    have hq := str_ne h
    generalize u.card = c at *
    clear h
    go_enter Tryz.func243, Tryz.ntmps243
    go_wp2
    go_ret
    exact ⟨ret_bool (by first | rfl | simp), hf0⟩

set_option maxHeartbeats 400000 in
theorem room1_any (u : Use) (win : Int) (B : Nat) (w : World) (hc : w.cell? ⟨B, 0, none⟩ = some (.int .i64 win)) (hB : B < w.heap.size) :
    Calls Tryz.prog 305 #[.agg #[.string u.card, .int .i64 u.window, .int .i64 u.times, .int .i64 u.sum], .pointer (some ⟨B, 0, none⟩)] w fun e w' => e = .returned (.bool (decide (u.window ≠ win))) ∧ Fr noBlock w w' := by
  have hf0 := (Fr.refl noBlock w).alloc (.cells #[.string u.card, .int .i64 u.window, .int .i64 u.times, .int .i64 u.sum] 128)
  have hne : B ≠ w.heap.size := by omega
  go_enter Tryz.func305, Tryz.ntmps305
  go_wp2
  go_ret
  exact ⟨ret_bool (by rw [Bool.eq_iff_iff]; simp), hf0⟩

set_option maxHeartbeats 400000 in
theorem indexU_any (ao : Option Addr) (cap : Nat) (xs : List Use) (g : Nat) (lb : Array Value) (eg : ∀ args w, (callFunc g args).run Tryz.prog w = .ok (.enter g args) w) (p : Use → Bool) (w : World) (ha : RowRd UseR w ao xs)
    (hp : ∀ (W : World) (u : Use), Fr noBlock w W → Calls Tryz.prog g (#[.agg #[.string u.card, .int .i64 u.window, .int .i64 u.times, .int .i64 u.sum]] ++ lb) W fun e w' => e = .returned (.bool (p u)) ∧ Fr noBlock W w') :
    Calls Tryz.prog 242 #[.slice ao xs.length cap, .func (.func g) #[] lb] w fun e w' => e = .returned (.int .i64 (idxP p xs)) ∧ Fr noBlock w w' := by
  have hl := ha.len
  unfold maxLen at hl
  have Hp := Lib.hid hp
  clear hp
  go_enter Tryz.func242, Tryz.ntmps242
  go_wp2_with fail
  go_loopw [5, 8] (fun s5 s8 wr => ∃ k : Nat, k ≤ xs.length ∧ s8 = .int .i64 k ∧ Fr noBlock w wr ∧ Hid (∀ x ∈ xs.take k, p x = false)) (fun _ s8 _ => xs.length - (intOf s8).toNat)
  case atStart => exact ⟨0, Nat.zero_le _, rfl, Fr.refl _ _, Lib.hid (by simp)⟩
  case round =>
    obtain ⟨k, hk, rfl, hf, hn⟩ := hrel
    by_cases hlt : k < xs.length
    · obtain ⟨b, off, rfl, hb, c0, c1, c2, c3⟩ := use_cells (ha.fr0 hf) hlt
      have h1 : (k : Int) < (xs.length : Int) := by omega
      have hcall := Hp.out wr xs[k] hf
      cases hpk : p xs[k] with
      | true =>
        rw [hpk] at hcall
        have Hc := Lib.hid hcall
        have Hr := Lib.hid (idxP_hit hlt hpk hn.out)
        clear hcall hpk
        generalize xs[k] = x at *
        go_wp2_with fail
        refine Hc.out.mono ?_
        rintro e w' ⟨rfl, hf'⟩
        go_wp2_with fail
        go_ret
        exact ⟨ret_int Hr.out.symm, hf.trans' hf'⟩
      | false =>
        rw [hpk] at hcall
        have Hc := Lib.hid hcall
        have Hn := Lib.hid (take_miss hlt hpk hn.out)
        clear hcall hpk
        generalize xs[k] = x at *
        go_wp2_with fail
        refine Hc.out.mono ?_
        rintro e w' ⟨rfl, hf'⟩
        go_wp2_with fail
        go_roundw
        case rel => exact ⟨k + 1, by omega, by go_num, hf.trans' hf', Hn⟩
        case measure => simp [intOf]; omega
    · have h1 : (xs.length : Int) ≤ (k : Int) := by omega
      have Hr : Hid (idxP p xs = -1) := Lib.hid (idxP_miss (by have := hn.out; rwa [List.take_of_length_le (by omega)] at this))
      go_wp2_with fail
      go_ret
      exact ⟨ret_int Hr.out.symm, hf⟩

theorem small_len {n : Nat} (h : n ≤ 100000) : n ≤ maxLen := by unfold maxLen; omega
theorem idxP_find (us : List Use) (s : ByteArray) : idxP (fun u => decide (u.card = s)) us = idxI (findU us s) := rfl
theorem idxP_win (us : List Use) (win : Int) : idxP (fun u => decide (u.window ≠ win)) us = idxI (findW us win) := rfl

set_option maxHeartbeats 400000 in
theorem find_any {l : Nat} {us : List Use} {w : World} {F : Nat → Prop} (h : Hold 213 128 UseR l us w F) (hlen : us.length ≤ 16) (s : ByteArray) (i : Int) (hi : idxI (findU us s) = i) :
    Calls Tryz.prog 179 #[.pointer (some ⟨l, 0, none⟩), .string s] w fun e w' => e = .returned (.int .i64 i) ∧ Fr noBlock w w' := by
  subst hi
  obtain ⟨vo, cap, c0, f0, hl, hc1, hc2, hr, _⟩ := h.opened
  have hf0 := (Fr.refl noBlock w).alloc (.cells #[.string s] 9)
  have hrd := (RowRd.of_at hr (small_len (by omega))).fr0 hf0
  have hc := indexU_any vo cap us 243 #[.pointer (some ⟨w.heap.size, 0, none⟩)] (enters_of Tryz.func243 (by kernel_rfl) rfl) (fun u => decide (u.card = s)) _ hrd (fun W u hf => by
    have h0 : (w.alloc (.cells #[.string s] 9)).cell? ⟨w.heap.size, 0, none⟩ = some (.string s) := by simp
    have h1 : W.cell? ⟨w.heap.size, 0, none⟩ = some (.string s) := (hf.cell (p := ⟨w.heap.size, 0, none⟩) (by simp) (fun x => x)).trans h0
    exact find1_any u s w.heap.size W h1 (Nat.lt_of_lt_of_le (by simp) hf.size))
  rw [idxP_find] at hc
  have Hc := Lib.hid hc
  clear hc hr hrd h
  generalize idxI (findU us s) = i at *
  go_enter Tryz.func179, Tryz.ntmps179
  go_wp2_with fail
  refine Hc.out.mono ?_
  rintro e w' ⟨rfl, hf'⟩
  go_wp2
  go_ret
  exact ⟨rfl, hf0.trans' hf'⟩

theorem info_use : (Tryz.prog.info? 128).map (fun i => (i.zero, i.size, i.bytes)) = some (some (.agg #[.string .empty, .int .i64 0, .int .i64 0, .int .i64 0]), 4, 40) := by kernel_rfl

set_option maxHeartbeats 400000 in
theorem clone_any (v : Value) (us : List Use) (w : World) (h : RowAt 128 UseR w v us) (hlen : us.length ≤ 100000) :
    Calls Tryz.prog 142 #[v] w fun e w' => ∃ v', e = .returned v' ∧ RowAt 128 UseR w' v' us ∧ Fr noBlock w w' ∧ ∀ k, v'.ownBlock = some k → w.heap.size ≤ k := by
  obtain ⟨i0, hi0, hz0, hz1, hz2⟩ := info_parts info_use
  rcases h.2 with ⟨rfl, h0⟩ | ⟨g, cap, cur, rfl, _, hg, hcap, _⟩
  · have hps : us = [] := List.eq_nil_of_length_eq_zero h0
    subst hps
    have he := fun w : World => Lib.run_eql_slice_nil (P := Tryz.prog) w 122 128 none 0 0 0 0 Tryz.underlying122
    go_enter Tryz.func142, Tryz.ntmps142
    go_wp2
    go_ret
    exact ⟨_, rfl, h, Fr.refl _ _, fun k hk => by simp [Value.ownBlock] at hk⟩
  · have he := fun w : World => Lib.run_eql_slice_nil (P := Tryz.prog) w 122 128 (some ⟨g, 0, none⟩) us.length cap 0 0 Tryz.underlying122
    have hc := h.cells (g := g) rfl
    have hl := h.1
    have hgl := heap_lt hg
    have Hc := Lib.hid hc
    have Hl := Lib.hid hl
    have H1 := Lib.hid (UseR.flat_oneCell us)
    clear hc hl
    go_enter Tryz.func142, Tryz.ntmps142
    go_wp2_with (at_builtin; refine wpList_append_own_at (base := 0) (w := w.alloc (.cells #[] 128)) rfl _ _ _ rfl 128 i0 _ 4 40 Tryz.underlying122 hi0 hz0 hz1 hz2 rfl (by decide) _ 0 [] rfl ?c1 ⟨g, 0, none⟩ us.length cap (UseR.flat us) rfl ?c2 ?c3 ?c4 ?c5 ?c6 ?c7 ?_)
    case c1 => exact World.ownsRow_made w #[] 0 (Nat.zero_le _) (Nat.zero_le _) (by simp)
    case c2 => exact Hl.out
    case c3 => intro j u hu; exact (World.cell?_alloc_lt _ _ _ (by rw [Addr.add_lit]; exact hgl)).trans (Hc.out j u hu)
    case c4 => exact H1.out
    case c5 => unfold maxLen; omega
    case c6 => omega
    case c7 => exact Nat.zero_le _
    intro v' w1 hown hgrow _ hat
    have hF : Fr noBlock w w1 := ((Fr.refl noBlock w).alloc _).grown hgrow (by intro k hk; simp [Value.ownBlock] at hk; exact .inr (by omega))
    go_wp2
    go_ret
    refine ⟨v', rfl, hown, hF, fun k hk => ?_⟩
    rcases hat with hat | hat <;> (rw [hk] at hat; simp [Value.ownBlock] at hat; omega)

set_option maxHeartbeats 400000 in
theorem list_any {l : Nat} {us : List Use} {w : World} {F : Nat → Prop} (h : Hold 213 128 UseR l us w F) (hlen : us.length ≤ 16) :
    Calls Tryz.prog 69 #[.pointer (some ⟨l, 0, none⟩)] w fun e w' => ∃ v', e = .returned v' ∧ RowAt 128 UseR w' v' us ∧ Fr noBlock w w' ∧ ∀ k, v'.ownBlock = some k → w.heap.size ≤ k := by
  obtain ⟨vo, cap, c0, f0, hl, hc1, hc2, hr, _⟩ := h.opened
  have Hc := Lib.hid (clone_any _ us w hr (by omega))
  clear hr h
  go_enter Tryz.func69, Tryz.ntmps69
  go_wp2_with (go_at_call 142; refine Hc.out.mono ?_; rintro e w' ⟨v', rfl, h1, h2, h3⟩)
  go_ret
  exact ⟨v', rfl, h1, h2, h3⟩
end Go.Proofs.YtajhgejhdalobaaGreatDoor.Lm
namespace Go.Proofs.YtajhgejhdalobaaGreatDoor.Lm
open Go.RowKit

theorem zero_use (w : World) : (zeroValue 128).run Tryz.prog w = .ok (.agg #[.string .empty, .int .i64 0, .int .i64 0, .int .i64 0]) w := by kernel_rfl

theorem delete_mid {g n cap k : Nat} {us : List Use} {w : World} (h : RowAt 128 UseR w (.slice (some ⟨g, 0, none⟩) n cap) us) (hk : k < us.length) {w1 : World} (hf : Fr noBlock w w1) :
    Fr (fun b => b = g) w (w1.setCells g (k * 4) (UseR.flat (us.drop (k + 1)))) ∧ ∃ cur, (w1.setCells g (k * 4) (UseR.flat (us.drop (k + 1)))).heap[g]? = some (.cells cur 128 (0, 0)) ∧ cur.size = cap * 4 ∧ cur.toList.take ((n - 1) * 4) = UseR.flat (us.eraseIdx k) := by
  obtain ⟨cur, hg, rfl, hc1, hc2, hs, ht⟩ := h.block
  have hs' : cur.size = cap * 4 := hs
  have hl : (UseR.flat (us.drop (k + 1))).length = (us.length - (k + 1)) * 4 := by rw [UseR.flat_len, List.length_drop]; rfl
  have hg1 := hf.obj hg (fun x => x)
  obtain ⟨cur', h1, h2, h3⟩ := heap_setCells (UseR.flat (us.drop (k + 1))) (k * 4) w1 cur hg1 (by rw [hl]; omega)
  refine ⟨fr_setCells (S := fun b => b = g) (hf.mono (fun _ x => x.elim)) (.inl rfl) _, cur', h1, h2.trans hs', ?_⟩
  have ht' : cur.toList.take (k * 4) = (UseR.flat us).take (k * 4) := by
    have := congrArg (List.take (k * 4)) ht
    rw [List.take_take] at this
    have e : min (k * 4) (us.length * UseR.k) = k * 4 := by
      have : UseR.k = 4 := rfl
      rw [this]; omega
    rwa [e] at this
  rw [h3, flat_erase, ht', ← UseR.flat_drop]
  have e1 : (UseR.flat us).take (k * UseR.k) ++ (UseR.flat us).drop ((k + 1) * UseR.k) = (UseR.flat us).take (k * 4) ++ (UseR.flat us).drop ((k + 1) * 4) := rfl
  have e2 : (UseR.flat us).drop ((k + 1) * UseR.k) = (UseR.flat us).drop ((k + 1) * 4) := rfl
  rw [e1, e2]
  have hl2 : ((UseR.flat us).take (k * 4) ++ (UseR.flat us).drop ((k + 1) * 4)).length = (us.length - 1) * 4 := by
    have : (UseR.flat us).length = us.length * 4 := UseR.flat_len us
    simp [this]; omega
  rw [List.append_assoc, ← List.append_assoc, List.take_append_of_le_length (by omega), List.take_of_length_le (by omega)]

set_option maxRecDepth 1000000 in
set_option maxHeartbeats 1600000 in
theorem delete_any (g cap k : Nat) (us : List Use) (w : World) (h : RowAt 128 UseR w (.slice (some ⟨g, 0, none⟩) us.length cap) us) (hk : k < us.length) (hlen : us.length ≤ 100000) (hcap : cap ≤ maxLen) :
    Calls Tryz.prog 306 #[.slice (some ⟨g, 0, none⟩) us.length cap, .int .i64 k, .int .i64 (k + 1)] w fun e w' => e = .returned (.slice (some ⟨g, 0, none⟩) (us.length - 1) cap) ∧ RowAt 128 UseR w' (.slice (some ⟨g, 0, none⟩) (us.length - 1) cap) (us.eraseIdx k) ∧ Fr (fun b => b = g) w w' := by
  obtain ⟨i0, hi0, hz0, hz1, hz2⟩ := info_parts info_use
  obtain ⟨cur, hg, _, hc1, _, hs, ht⟩ := h.block
  have hs' : cur.size = cap * 4 := hs
  have hcel := World.ownsRow.cells h (g := g) rfl
  have hflen : (UseR.flat us).length = us.length * 4 := UseR.flat_len us
  have hlm : (UseR.flat (us.drop (k + 1))).length = (us.length - (k + 1)) * 4 := by rw [UseR.flat_len, List.length_drop]; rfl
  unfold maxLen at hcap
  obtain ⟨A, hA, hnews⟩ : ∃ A : Addr, (if cap = k + 1 then some (⟨g, 0, none⟩ : Addr) else some ⟨g, (k + 1) * 4, none⟩) = some A ∧ Hid (∀ j u, (UseR.flat (us.drop (k + 1)))[j]? = some u → w.drew.cell? (A.add j) = some u) := by
    by_cases hc : cap = k + 1
    · refine ⟨⟨g, 0, none⟩, by simp [hc], fun j u hu => ?_⟩
      have h0 : (UseR.flat (us.drop (k + 1))).length = 0 := by rw [hlm]; omega
      rw [List.length_eq_zero_iff.1 h0] at hu
      simp at hu
    · refine ⟨⟨g, (k + 1) * 4, none⟩, by simp [hc], fun j u hu => ?_⟩
      rw [← UseR.flat_drop, List.getElem?_drop] at hu
      have := hcel ((k + 1) * 4 + j) u hu
      rw [Addr.add_lit, Nat.zero_add] at this
      rw [Addr.add_lit]
      exact this
  have s1 : Hid ((UseR.flat (us.drop (k + 1))).length = (us.length - (k + 1)) * 4) := hlm
  have s2 : Hid (∀ u ∈ UseR.flat (us.drop (k + 1)), u.oneCell' = true) := UseR.flat_oneCell _
  have s3 : Hid (∀ j, j < (UseR.flat (us.drop (k + 1))).length → (w.drew.cell? ⟨g, 0 + k * 4 + j, none⟩).isSome = true ∧ w.drew.frozen? ⟨g, 0 + k * 4 + j, none⟩ = false) := by
    intro j hj
    rw [hlm] at hj
    refine ⟨?_, free_of hg _⟩
    show (w.cell? _).isSome = true
    rw [cell_of hg, Array.getElem?_eq_getElem (by omega)]
    rfl
  have Hmid := Lib.hid (delete_mid h hk ((Fr.refl noBlock w).drew))
  have hne : ((k : Int) == (k : Int) + 1) = false := by rw [beq_eq_false_iff_ne]; omega
  have hk1 : (k : Int) + 1 ≤ (us.length : Int) := by omega
  have hk2 : (us.length : Int) ≤ (cap : Int) := by omega
  have hk3 : (cap : Int) ≤ 9223372036854775807 := by omega
  have hp2 : ((k : Int) + 1).toNat = k + 1 := by omega
  have hkc : k ≤ cap := by omega
  have hp0 : (0 : Int) ≤ (k : Int) + 1 := by omega
  clear hg hcel hflen hlm ht hs' hs cur
  go_enter Tryz.func306, Tryz.ntmps306
  go_wp2_with fail
  go_region_law (refine step_append_room rfl (.tmp 22) (.tmp 25) 122 rfl 128 i0 4 Tryz.underlying122 hi0 hz1 g 0 k cap (by simp [Act.eval, Act.put]) A (us.length - (k + 1)) (cap - (k + 1)) (UseR.flat (us.drop (k + 1))) (by simp [Act.eval, Act.put]) s1.out hnews.out s2.out (by omega) s3.out ?_)
  obtain ⟨L, hL⟩ : ∃ L, us.length = L + 1 := ⟨us.length - 1, by omega⟩
  rw [show k + (us.length - (k + 1)) = L from by omega]
  obtain ⟨W, hW⟩ : ∃ W, W = w.drew.setCells g (k * 4) (UseR.flat (us.drop (k + 1))) := ⟨_, rfl⟩
  rw [← hW]
  obtain ⟨hf1, cur, hg, hs, ht⟩ := Hmid.out
  rw [← hW] at hf1 hg
  obtain ⟨W', cur', hcl, hg', hs', ht', hf2⟩ := run_clear_row (P := Tryz.prog) (t := 122) (n := us.length - L) (c := cap - L) Tryz.underlying122 zero_use hg (o := L * 4) (by omega) (by rw [hs]; simp [Value.cells]; omega) (by intro v hv; simp [Value.cells] at hv; rcases hv with rfl | rfl | rfl | rfl <;> rfl)
  have hcL : ¬ cap = L := by omega
  have hLn : (L : Int) ≤ (us.length : Int) := by omega
  have hrow : RowAt 128 UseR W' (.slice (some ⟨g, 0, none⟩) L cap) (us.eraseIdx k) := by
    have hle : (us.eraseIdx k).length = L := by rw [List.length_eraseIdx, if_pos hk]; omega
    have := RowAt.of_block (R := UseR) (xs := us.eraseIdx k) (cap := cap) hg' (by omega) (by unfold maxLen; omega) (by rw [hs', hs]; rfl) (by
      rw [hle]
      show cur'.toList.take (L * 4) = _
      rw [ht', ← ht]; congr 1; omega)
    rwa [hle] at this
  have HL := Lib.hid (show us.length - 1 = L by omega)
  have Hrow := Lib.hid hrow
  have Hf := Lib.hid (hf1.trans' hf2)
  clear hL hW hf1 hg hs ht hg' hs' ht' hf2 hrow
  go_wp2
  go_ret
  exact ⟨by rw [HL.out]; rfl, by rw [HL.out]; exact Hrow.out, Hf.out⟩
end Go.Proofs.YtajhgejhdalobaaGreatDoor.Lm
namespace Go.Proofs.YtajhgejhdalobaaGreatDoor.Lm
open Go.RowKit

theorem indexW_any {us : List Use} {w : World} (hlen : us.length ≤ 16) (win : Int) {vo : Option Addr} {cap : Nat} (hr : RowAt 128 UseR w (.slice vo us.length cap) us) :
    Calls Tryz.prog 242 #[.slice vo us.length cap, .func (.func 305) #[] #[.pointer (some ⟨w.heap.size, 0, none⟩)]] (w.alloc (.cells #[.int .i64 win] 3)) fun e w' => e = .returned (.int .i64 (idxI (findW us win))) ∧ Fr noBlock (w.alloc (.cells #[.int .i64 win] 3)) w' := by
  have hf0 := (Fr.refl noBlock w).alloc (.cells #[.int .i64 win] 3)
  have hrd := (RowRd.of_at hr (small_len (by omega))).fr0 hf0
  rw [← idxP_win]
  exact indexU_any vo cap us 305 #[.pointer (some ⟨w.heap.size, 0, none⟩)] (enters_of Tryz.func305 (by kernel_rfl) rfl) (fun u => decide (u.window ≠ win)) _ hrd (fun W u hf => by
    have h0 : (w.alloc (.cells #[.int .i64 win] 3)).cell? ⟨w.heap.size, 0, none⟩ = some (.int .i64 win) := by simp
    have h1 : W.cell? ⟨w.heap.size, 0, none⟩ = some (.int .i64 win) := (hf.cell (p := ⟨w.heap.size, 0, none⟩) (by simp) (fun x => x)).trans h0
    exact room1_any u win w.heap.size W h1 (Nat.lt_of_lt_of_le (by simp) hf.size))

def RoomPost (l : Nat) (us : List Use) (win : Int) (F : Nat → Prop) (w : World) (e : Ending) (w' : World) : Prop :=
  ∃ F', e = .returned (.bool (!(decide (16 ≤ us.length) && (findW us win).isNone))) ∧ Hold 213 128 UseR l (roomL us win) w' F' ∧ Step F F' w w'

set_option maxHeartbeats 800000 in
theorem room_any {l : Nat} {us : List Use} {w : World} {F : Nat → Prop} (h : Hold 213 128 UseR l us w F) (hlen : us.length ≤ 16) (win : Int) :
    Calls Tryz.prog 238 #[.pointer (some ⟨l, 0, none⟩), .int .i64 win] w (RoomPost l us win F w) := by
  obtain ⟨vo, cap, c0, f0, hl, hc1, hc2, hr, hgs, hob, hnil, hfo⟩ := h.opened
  have hf0 := (Fr.refl noBlock w).alloc (.cells #[.int .i64 win] 3)
  by_cases h16 : us.length < 16
  · have h16' : (us.length : Int) < 16 := by omega
    have hroom : roomL us win = us := by unfold roomL; rw [if_pos h16]
    have Hr := Lib.hid hroom
    have Hh := Lib.hid h
    clear hr h hroom hgs hob hnil hfo
    go_enter Tryz.func238, Tryz.ntmps238
    go_wp2
    go_ret
    refine ⟨F, ?_, ?_, Step.same hf0⟩
    · exact ret_bool (by rw [decide_eq_false (by omega)]; rfl)
    · rw [Hr.out]; exact Hold.ok.fr0 Hh.out hf0
  · have h16' : (16 : Int) ≤ (us.length : Int) := by omega
    have Hi := Lib.hid (indexW_any hlen win hr)
    have hd : (decide (16 ≤ us.length)) = true := decide_eq_true (by omega)
    cases hw : findW us win with
    | none =>
      have hroom : roomL us win = us := by unfold roomL; rw [if_neg h16, hw]
      have Hr := Lib.hid hroom
      have Hh := Lib.hid h
      have Hd := Lib.hid (And.intro hd hw)
      rw [hw] at Hi
      simp only [idxI] at Hi
      clear hr h hroom hgs hob hnil hfo hd hw
      go_enter Tryz.func238, Tryz.ntmps238
      go_wp2_with fail
      refine Hi.out.mono ?_
      rintro e w' ⟨rfl, hf'⟩
      have Hf' := Lib.hid (hf0.trans' hf')
      clear hf' hf0
      go_wp2
      go_ret
      refine ⟨F, ?_, ?_, Step.same Hf'.out⟩
      · exact ret_bool (by rw [Hd.out.1, Hd.out.2]; rfl)
      · rw [Hr.out]; exact Hold.ok.fr0 Hh.out Hf'.out
    | some k =>
      have hroom : roomL us win = us.eraseIdx k := by unfold roomL; rw [if_neg h16, hw]
      have hk : k < us.length := by
        have h' := hw
        unfold findW at h'
        rw [List.findIdx?_eq_some_iff_getElem] at h'
        exact h'.1
      obtain ⟨g, rfl, hg, _, _, _⟩ := hr.elem hk
      have Hr := Lib.hid hroom
      have Hh := Lib.hid h
      have Hd := Lib.hid (And.intro hd hw)
      rw [hw] at Hi
      simp only [idxI] at Hi
      have Hgl := Lib.hid (hgs g rfl)
      have Hrow := Lib.hid hr
      have hk' : (k : Int) < 16 := by omega
      have hk0 : (0 : Int) ≤ (k : Int) := by omega
      clear hr h hroom hgs hob hnil hfo hd hw
      go_enter Tryz.func238, Tryz.ntmps238
      go_wp2_with fail
      refine Hi.out.mono ?_
      rintro e w1 ⟨rfl, hf'⟩
      have hf1 := hf0.trans' hf'
      have d0 := (hf1.cell (p := ⟨l, 0, none⟩) hl (fun x => x)).trans c0
      have Hdel := Lib.hid (delete_any g cap k us w1 (Hrow.out.fr0 hf1) hk (by omega) hc2)
      have Hf1 := Lib.hid hf1
      have Hh1 := Lib.hid (Hold.ok.fr0 Hh.out hf1)
      have hl1 : l < w1.heap.size := Nat.lt_of_lt_of_le hl hf1.size
      clear hf' hf0 hf1
      go_wp2_with fail
      refine Hdel.out.mono ?_
      rintro e w2 ⟨rfl, hrow2, hf2⟩
      have e0 := (hf2.cell (p := ⟨l, 0, none⟩) hl1 (fun e => Hgl.out.1 e.symm)).trans d0
      have ef := (hf2.frozen (p := ⟨l, 0, none⟩) hl1 (fun e => Hgl.out.1 e.symm)).trans ((Hf1.out.frozen (p := ⟨l, 0, none⟩) hl (fun x => x)).trans f0)
      have hle : (us.eraseIdx k).length = us.length - 1 := by rw [List.length_eraseIdx, if_pos hk]
      have Hrep := Lib.hid (Hh1.out.replace (ys := us.eraseIdx k) (hf2.mono (fun b hb => by subst hb; exact Hgl.out.2)) (hf2.block l hl1 (fun e => Hgl.out.1 e.symm)) hrow2 (fun b hb => by
        obtain rfl : g = b := by simpa [Value.ownBlock] using hb
        exact ⟨Hgl.out.1, .inl Hgl.out.2⟩))
      clear hrow2 hf2 hle
      go_wp2
      go_ret
      obtain ⟨hh, hs⟩ := Hrep.out
      refine ⟨_, ?_, by rw [Hr.out]; exact hh, (Step.same Hf1.out).trans hs⟩
      exact ret_bool (by rw [Hd.out.1, Hd.out.2]; rfl)

theorem hold_put4 {T : TypeId} {l : Nat} {us : List Use} {w : World} {F : Nat → Prop} (h : Hold T 128 UseR l us w F) {g n cap k : Nat} (hc : w.cell? ⟨l, 0, none⟩ = some (.slice (some ⟨g, 0, none⟩) n cap)) (hk : k < us.length) (y : Use) :
    Hold T 128 UseR l (us.set k y) ((((w.setCell ⟨g, k * 4, none⟩ (.string y.card)).setCell ⟨g, k * 4 + 1, none⟩ (.int .i64 y.window)).setCell ⟨g, k * 4 + 2, none⟩ (.int .i64 y.times)).setCell ⟨g, k * 4 + 3, none⟩ (.int .i64 y.sum)) F ∧
      Fr F w ((((w.setCell ⟨g, k * 4, none⟩ (.string y.card)).setCell ⟨g, k * 4 + 1, none⟩ (.int .i64 y.window)).setCell ⟨g, k * 4 + 2, none⟩ (.int .i64 y.times)).setCell ⟨g, k * 4 + 3, none⟩ (.int .i64 y.sum)) := by
  have hgl : g ≠ l := by
    obtain ⟨v, h1, h2, h3, h4⟩ := h
    intro e
    obtain rfl : v = .slice (some ⟨g, 0, none⟩) n cap := by
      have := cell_of h1 0
      rw [hc] at this
      simpa using this.symm
    exact h3 (by rw [e]; rfl)
  have key : ∀ (W : World) (o : Nat) (u : Value), W.cell? ⟨l, 0, none⟩ = w.cell? ⟨l, 0, none⟩ → (W.setCell ⟨g, o, none⟩ u).cell? ⟨l, 0, none⟩ = w.cell? ⟨l, 0, none⟩ := fun W o u hW =>
    (World.cell?_of_block (w := W) (Below.heap_setCell W ⟨g, o, none⟩ u l (fun e => hgl e.symm))).trans hW
  have k1 := key w (k * 4) (.string y.card) rfl
  have k2 := key _ (k * 4 + 1) (.int .i64 y.window) k1
  have k3 := key _ (k * 4 + 2) (.int .i64 y.times) k2
  obtain ⟨a1, b1⟩ := h.set (j := 0) (u := .string y.card) hc hk (by show 0 < 4; omega) ⟨y.card, us[k].window, us[k].times, us[k].sum⟩ rfl
  obtain ⟨a2, b2⟩ := a1.set (i := k) (j := 1) (u := .int .i64 y.window) (k1.trans hc) (by simpa using hk) (by show 1 < 4; omega) ⟨y.card, y.window, us[k].times, us[k].sum⟩ (by simp; rfl)
  obtain ⟨a3, b3⟩ := a2.set (i := k) (j := 2) (u := .int .i64 y.times) (k2.trans hc) (by simpa using hk) (by show 2 < 4; omega) ⟨y.card, y.window, y.times, us[k].sum⟩ (by simp; rfl)
  obtain ⟨a4, b4⟩ := a3.set (i := k) (j := 3) (u := .int .i64 y.sum) (k3.trans hc) (by simpa using hk) (by show 3 < 4; omega) y (by simp; rfl)
  have e : (((us.set k ⟨y.card, us[k].window, us[k].times, us[k].sum⟩).set k ⟨y.card, y.window, us[k].times, us[k].sum⟩).set k ⟨y.card, y.window, y.times, us[k].sum⟩).set k y = us.set k y := by simp [List.set_set]
  rw [e] at a4
  exact ⟨a4, ((b1.trans' b2).trans' b3).trans' b4⟩

def TryPost (l : Nat) (us : List Use) (r : Rule) (s : ByteArray) (a n : Int) (F : Nat → Prop) (w : World) (e : Ending) (w' : World) : Prop :=
  ∃ F', e = .returned (.int .i64 (tryE us r s a n)) ∧ Hold 213 128 UseR l (tryL us r s a n) w' F' ∧ Step F F' w w'
theorem try_no {l : Nat} {us : List Use} {r : Rule} {s : ByteArray} {a n : Int} {F : Nat → Prop} {w w' : World} {e : Ending} (h : Hold 213 128 UseR l us w F) {x : Int} (he : e = .returned (.int .i64 x)) (hx : tryE us r s a n = x) (h0 : x ≠ 0) (hf : Fr noBlock w w') : TryPost l us r s a n F w e w' :=
  ⟨F, by rw [hx]; exact he, by rw [tryL, if_neg (by rw [hx]; exact h0)]; exact Hold.ok.fr0 h hf, Step.same hf⟩
theorem try_arg {us : List Use} {r : Rule} {s : ByteArray} {a n : Int} (h : mayB r s a n = false) : tryE us r s a n = 1 := by unfold tryE; rw [if_pos h]
theorem try_once {us : List Use} {r : Rule} {s : ByteArray} {a n : Int} (h : mayB r s a n = true) (h1 : r.once < a) : tryE us r s a n = 17 := by unfold tryE; rw [if_neg (by simp [h]), if_pos h1]
theorem try_count {us : List Use} {r : Rule} {s : ByteArray} {a n : Int} (h : mayB r s a n = true) (h1 : ¬ r.once < a) (h2 : r.times ≤ (curU us s (n / r.ticks)).times) : tryE us r s a n = 18 := by unfold tryE; rw [if_neg (by simp [h]), if_neg h1, if_pos h2]
theorem try_sum {us : List Use} {r : Rule} {s : ByteArray} {a n : Int} (h : mayB r s a n = true) (h1 : ¬ r.once < a) (h2 : ¬ r.times ≤ (curU us s (n / r.ticks)).times) (h3 : r.sum - a < (curU us s (n / r.ticks)).sum) : tryE us r s a n = 17 := by unfold tryE; rw [if_neg (by simp [h]), if_neg h1, if_neg h2, if_pos h3]
theorem try_full {us : List Use} {r : Rule} {s : ByteArray} {a n : Int} (h : mayB r s a n = true) (h1 : ¬ r.once < a) (h2 : ¬ r.times ≤ (curU us s (n / r.ticks)).times) (h3 : ¬ r.sum - a < (curU us s (n / r.ticks)).sum) (h4 : fullB us s (n / r.ticks) = true) : tryE us r s a n = 14 := by unfold tryE; rw [if_neg (by simp [h]), if_neg h1, if_neg h2, if_neg h3, if_pos h4]
theorem try_ok {us : List Use} {r : Rule} {s : ByteArray} {a n : Int} (h : mayB r s a n = true) (h1 : ¬ r.once < a) (h2 : ¬ r.times ≤ (curU us s (n / r.ticks)).times) (h3 : ¬ r.sum - a < (curU us s (n / r.ticks)).sum) (h4 : fullB us s (n / r.ticks) = false) : tryE us r s a n = 0 := by unfold tryE; rw [if_neg (by simp [h]), if_neg h1, if_neg h2, if_neg h3, if_neg (by simp [h4])]

set_option maxRecDepth 100000 in
set_option maxHeartbeats 800000 in
theorem try_bad {l : Nat} {us : List Use} {w : World} {F : Nat → Prop} (h : Hold 213 128 UseR l us w F) (r : Rule) (s : ByteArray) (a n : Int) (hm : mayB r s a n = false) :
    Calls Tryz.prog 173 #[.pointer (some ⟨l, 0, none⟩), r.val, .string s, .int .i64 a, .int .i64 n] w (TryPost l us r s a n F w) := by
  have Hm := Lib.hid (fun W => may_any r s a n false hm W)
  have Hh := Lib.hid h
  have Ha := Lib.hid (try_arg (us := us) hm)
  have hf0 := (Fr.refl noBlock w).alloc (.cells #[.int .i64 r.ticks, .int .i64 r.times, .int .i64 r.sum, .int .i64 r.once] 47)
  clear h hm
  obtain ⟨ticks, times, sum, once⟩ := r
  unfold Rule.val at *
  simp only at *
  go_enter Tryz.func173, Tryz.ntmps173
  go_wp2_with fail
  refine (Hm.out _).mono ?_
  rintro e w1 ⟨rfl, f1⟩
  go_wp2_with fail
  go_ret
  exact try_no Hh.out rfl Ha.out (by omega) (hf0.trans' f1)
end Go.Proofs.YtajhgejhdalobaaGreatDoor.Lm
