/-
  WHAT THE LIBRARY's TABLES SAY, beside things; Itoa of any number, Cut and Split at one byte, Repeat of one byte.
-/
import Derived.Test.YtajhgejhdalobaaGreatDoorPnP
import Derived.Test.YtajhgejhdalobaaGreatDoorTnP0
import Derived.Test.YtajhgejhdalobaaGreatDoorMcD
import Derived.Test.YtajhgejhdalobaaGreatDoorTnShelf
namespace Go.Proofs.YtajhgejhdalobaaGreatDoor
open Go.RowKit

structure Glob (w : World) (F : Nat → Prop) : Prop where
  tab : Lib.TabIs Tryz.prog w "internal/strconv.uint64pow10" .u64 Lib.pow10Tab
  max : ∃ m, w.cell? ⟨0, 0, none⟩ = some (.int .i64 m)
  t : ¬ F 1
  z : ¬ F 0
theorem pow_named : Tryz.prog.globalNamed "internal/strconv.uint64pow10" = some 1 := by kernel_rfl
namespace Glob
variable {w w' : World} {F F' : Nat → Prop}
theorem lt (h : Glob w F) : 1 < w.heap.size ∧ 0 < w.heap.size := by
  obtain ⟨m, hm⟩ := h.max
  refine ⟨?_, World.block_lt_of_cell? _ _ hm⟩
  have ht := h.tab
  unfold Lib.TabIs World.var? at ht
  rw [pow_named] at ht
  simp only [Option.bind_some] at ht
  rcases Nat.lt_or_ge 1 w.heap.size with h' | h'
  · exact h'
  · rw [Array.getElem?_eq_none h'] at ht; cases ht
theorem step (h : Glob w F) (s : Step F F' w w') : Glob w' F' := by
  obtain ⟨l1, l2⟩ := h.lt
  obtain ⟨m, hm⟩ := h.max
  refine ⟨?_, ⟨m, (s.fr.cell (p := ⟨0, 0, none⟩) l2 h.z).trans hm⟩, fun hf => (s.foot _ hf).elim h.t (fun hle => by omega), fun hf => (s.foot _ hf).elim h.z (fun hle => by omega)⟩
  have ht := h.tab
  unfold Lib.TabIs World.var? at ht ⊢
  rw [pow_named] at ht ⊢
  simp only [Option.bind_some] at ht ⊢
  rw [s.fr.block _ l1 h.t]
  exact ht
theorem fr (h : Glob w F) (f : Fr noBlock w w') : Glob w' F := h.step (Step.same f)
theorem sub (h : Glob w F) {G : Nat → Prop} (hg : ∀ k, G k → F k) : Glob w G := ⟨h.tab, h.max, fun hk => h.t (hg _ hk), fun hk => h.z (hg _ hk)⟩
theorem own {w0 : World} {A : Thing} (h : Glob w0 noBlock) (m : Mine w0 A w F) : Glob w F := by
  obtain ⟨l1, l2⟩ := h.lt
  have h1 := h.fr (Fr.of_below m.below)
  exact ⟨h1.tab, h1.max, fun hf => by have := m.base _ hf; omega, fun hf => by have := m.base _ hf; omega⟩
end Glob
theorem fr_grow {w : World} (k : Nat) (os : Array Obj) : Fr noBlock w (Go.Sort.grow (w.drewN k) os) := by
  refine ⟨rfl, rfl, rfl, ?_, fun b hb _ => ?_⟩
  · show w.heap.size ≤ (w.heap ++ os).size
    rw [Array.size_append]
    omega
  · show (w.heap ++ os)[b]? = w.heap[b]?
    rw [Array.getElem?_append_left hb]
theorem ito_dec (n : Nat) : itoB n = Lib.decDigits n := by
  induction n using Nat.strongRecOn with
  | ind n ih =>
    unfold itoB
    rw [Lib.decDigits]
    split
    · rfl
    · rw [ih (n / 10) (by omega)]
theorem ito_glob {w : World} {F : Nat → Prop} (h : Glob w F) (n : Nat) (hn : n ≤ 9223372036854775807) : Calls Tryz.prog 61 #[.int .i64 (n : Int)] w fun e w' => e = .returned (.string (strB (itoB n))) ∧ Fr noBlock w w' := by
  refine (Tryz.strconv_Itoa (n : Int) (by omega) (by omega) w h.tab).mono ?_
  rintro e w' ⟨rfl, k, os, rfl⟩
  refine ⟨?_, fr_grow k os⟩
  rw [Lib.itoa_nonneg, ← ito_dec]
  rfl
theorem index_at {x r : Bs} {c : UInt8} (h : c ∉ x) : Lib.index (x ++ c :: r) [c] = (x.length : Int) := by
  rw [Lib.index_one]
  induction x with
  | nil =>
    show Lib.indexByte (c :: r) c = _
    unfold Lib.indexByte
    simp
  | cons a x ih =>
    have hac : (a == c) = false := by
      rw [beq_eq_false_iff_ne]
      intro e
      exact h (e ▸ List.mem_cons_self)
    show Lib.indexByte (a :: (x ++ c :: r)) c = _
    unfold Lib.indexByte
    rw [hac, ih (fun hm => h (List.mem_cons_of_mem _ hm))]
    have : ((x.length : Int) == -1) = false := by rw [beq_eq_false_iff_ne]; omega
    rw [this]
    simp
theorem index_no {x : Bs} {c : UInt8} (h : c ∉ x) : Lib.index x [c] = -1 := by
  rw [Lib.index_one]
  induction x with
  | nil => rfl
  | cons a x ih =>
    have hac : (a == c) = false := by
      rw [beq_eq_false_iff_ne]
      intro e
      exact h (e ▸ List.mem_cons_self)
    unfold Lib.indexByte
    rw [hac, ih (fun hm => h (List.mem_cons_of_mem _ hm))]
    rfl
theorem split_at {c : UInt8} : ∀ {l : Bs}, c ∈ l → ∃ x r, l = x ++ c :: r ∧ c ∉ x
  | [], h => by cases h
  | a :: l, h => by
    by_cases e : a = c
    · subst e
      exact ⟨[], l, rfl, List.not_mem_nil⟩
    · obtain ⟨x, r, rfl, hx⟩ := split_at (List.mem_of_ne_of_mem (Ne.symm e) h)
      refine ⟨a :: x, r, rfl, fun hm => ?_⟩
      rcases List.mem_cons.1 hm with hm | hm
      · exact e hm.symm
      · exact hx hm
theorem cut_dot (s : Bs) : (Lib.cut s [46]).1 = s.takeWhile (fun c => c != 46) ∧ (Lib.cut s [46]).2.1 = (s.dropWhile (fun c => c != 46)).drop 1 := by
  by_cases h : (46 : UInt8) ∈ s
  · obtain ⟨x, r, rfl, hx⟩ := split_at h
    have hp : ∀ c ∈ x, (c != 46) = true := fun c hc => by
      simp
      rintro rfl
      exact hx hc
    unfold Lib.cut
    rw [index_at hx, if_pos (by omega)]
    dsimp only
    rw [Int.toNat_natCast, List.take_left, List.takeWhile_append_of_pos hp, List.takeWhile_cons, List.dropWhile_append_of_pos hp, List.dropWhile_cons]
    refine ⟨by simp, ?_⟩
    rw [show x.length + ([46] : Bs).length = x.length + 1 from rfl, List.drop_append, List.drop_of_length_le (by omega)]
    simp
  · have hp : ∀ c ∈ s, (c != 46) = true := fun c hc => by
      simp
      rintro rfl
      exact h hc
    unfold Lib.cut
    rw [index_no h, if_neg (by omega)]
    dsimp only
    refine ⟨?_, ?_⟩
    · have := List.takeWhile_append_of_pos (l₂ := []) hp
      simpa using this.symm
    · have := List.dropWhile_append_of_pos (l₂ := []) hp
      simp at this
      rw [this]
      rfl
theorem cut_glob {w : World} {F : Nat → Prop} (h : Glob w F) (s : ByteArray) (hs : s.size < 4294967281) : Calls Tryz.prog 62 #[.string s, .string ⟨#[46]⟩] w fun e w' => ∃ b, e = .returned (.tuple #[.string (strB ((bl s).takeWhile (fun c => c != 46))), .string (strB (((bl s).dropWhile (fun c => c != 46)).drop 1)), .bool b]) ∧ Fr noBlock w w' := by
  obtain ⟨m, hm⟩ := h.max
  refine (Tryz.strings_Cut s ⟨#[46]⟩ m w hs hm).mono ?_
  rintro e w' ⟨rfl, n, rfl⟩
  obtain ⟨h1, h2⟩ := cut_dot (bl s)
  refine ⟨(Lib.cut (bl s) [46]).2.2, ?_, (Fr.refl _ _).drewN n⟩
  rw [← h1, ← h2]
  rfl
theorem split_k : ∀ (n : Nat) (l : Bs), l.length ≤ n → Lib.splitK [32] 0 (Lib.count l [32]) l = splitS l ∧ Lib.count l [32] + 1 = (splitS l).length := by
  intro n
  induction n with
  | zero =>
    intro l h
    obtain rfl : l = [] := List.eq_nil_of_length_eq_zero (by omega)
    exact ⟨rfl, rfl⟩
  | succ n ih =>
    intro l h
    by_cases hm : (32 : UInt8) ∈ l
    · obtain ⟨x, r, rfl, hx⟩ := split_at hm
      have hi := index_at (r := r) hx
      have hd : (x ++ 32 :: r).drop (x.length + ([32] : Bs).length) = r := by
        rw [show x.length + ([32] : Bs).length = x.length + 1 from rfl, List.drop_append, List.drop_of_length_le (by omega)]
        simp
      have hc := Lib.count_hit (i := x.length) (by simp) hi
      rw [hd] at hc
      obtain ⟨e1, e2⟩ := ih r (by simp at h; omega)
      rw [hc, split_cons hx, Nat.add_comm 1]
      refine ⟨?_, by rw [List.length_cons, ← e2]⟩
      unfold Lib.splitK
      rw [hi, if_neg (by simp <;> omega), Int.toNat_natCast, hd, Nat.add_zero, List.take_left, e1]
    · have hi := index_no hm
      rw [Lib.count_miss hi, split_none hm]
      exact ⟨rfl, rfl⟩
theorem split_glob {w : World} {F : Nat → Prop} (h : Glob w F) (s : ByteArray) (hs : s.size < 4294967281) : Calls Tryz.prog 177 #[.string s, .string ⟨#[32]⟩] w fun e w' => e = .returned (.slice (some ⟨w.heap.size, 0, none⟩) (splitS (bl s)).length (splitS (bl s)).length) ∧ w' = w.alloc (.cells (LabR.flat ((splitS (bl s)).map strB)).toArray 9) := by
  obtain ⟨m, hm⟩ := h.max
  refine (Tryz.strings_Split s ⟨#[32]⟩ m w hs hm (by decide)).mono ?_
  rintro e w' ⟨rfl, rfl⟩
  obtain ⟨h1, h2⟩ := split_k _ (bl s) (Nat.le_refl _)
  have h3 : Lib.countB s ⟨#[32]⟩ + 1 = (splitS (bl s)).length := h2
  have h4 : Lib.splitB ⟨#[32]⟩ 0 (Lib.countB s ⟨#[32]⟩) s = (splitS (bl s)).map strB := by
    have h5 := Lib.splitB_data ⟨#[32]⟩ 0 (Lib.countB s ⟨#[32]⟩) s
    have h6 : (Lib.splitB ⟨#[32]⟩ 0 (Lib.countB s ⟨#[32]⟩) s).map (fun x => x.data.toList) = splitS (bl s) := h5.trans h1
    rw [← h6, List.map_map]
    refine (List.map_id _).symm.trans (List.map_congr_left fun x _ => ?_)
    cases x
    rfl
  rw [h3, h4]
  refine ⟨rfl, ?_⟩
  congr 2
  unfold Rec.flat
  rw [List.flatMap_eq_foldl]
  rw [← List.flatMap_eq_foldl]
  induction (splitS (bl s)).map strB with
  | nil => rfl
  | cons a l ih => 
    rw [List.map_cons, List.flatMap_cons]
    simp only [LabR, List.cons_append, List.nil_append]
    have := congrArg Array.toList ih
    simp only at this
    rw [this]
    rfl
end Go.Proofs.YtajhgejhdalobaaGreatDoor
