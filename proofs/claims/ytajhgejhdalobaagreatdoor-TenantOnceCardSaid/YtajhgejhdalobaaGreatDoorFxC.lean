/-
  THE WALK of chain: the block at the end of a row of blocks.
-/
import Derived.Lib.Hide
import Derived.Deep.CutBlock
import Derived.Laws.Rows
import Derived.Deep.MidRow
import Derived.Deep.WholeRow
import Derived.Deep.LoopGhost
import Derived.IntWalk
import Derived.Test.YtajhgejhdalobaaGreatDoorAeH
import Derived.Test.YtajhgejhdalobaaGreatDoorPnB
namespace Go.Proofs.YtajhgejhdalobaaGreatDoor
open Go.RowKit

def powC (i : Nat) : List Value := (List.range 17).map (fun k => .int .i64 ((if k ≤ i then 10 ^ k else 0 : Nat) : Int))
theorem powC_get {i k : Nat} (hk : k < 17) : (powC i)[k]? = some (.int .i64 ((if k ≤ i then 10 ^ k else 0 : Nat) : Int)) := by
  unfold powC
  rw [List.getElem?_map, List.getElem?_range hk]
  rfl
theorem powC_set {i : Nat} (hi : i < 16) : (powC i).toArray.setIfInBounds (i + 1) (.int .i64 ((10 ^ (i + 1) : Nat) : Int)) = (powC (i + 1)).toArray := by
  rw [List.setIfInBounds_toArray]
  congr 1
  apply List.ext_getElem?
  intro k
  rw [List.getElem?_set]
  have hl : (powC i).length = 17 := by simp [powC]
  by_cases hk : k < 17
  · rw [powC_get hk, powC_get hk]
    by_cases e : i + 1 = k
    · subst e
      rw [if_pos rfl, if_pos (by omega), if_pos (Nat.le_refl _)]
    · rw [if_neg e]
      by_cases h : k ≤ i
      · rw [if_pos h, if_pos (by omega)]
      · rw [if_neg h, if_neg (by omega)]
  · rw [List.getElem?_eq_none (by omega), List.getElem?_eq_none (by simp [powC]; omega)]
    split
    · rw [if_neg (by omega)]
    · rfl
theorem pow_le16 {i : Nat} (h : i ≤ 16) : 10 ^ i ≤ 10000000000000000 := Nat.le_trans (Nat.pow_le_pow_right (by decide) h) (by decide)
set_option maxRecDepth 100000 in
set_option maxHeartbeats 3200000 in
theorem powers_any (w : World) : Calls Tryz.prog 366 #[] w fun e w' => e = .returned (.agg (powC 16).toArray) ∧ Fr noBlock w w' := by
  go_enter Tryz.func366, Tryz.ntmps366
  go_upto_block 0 with fail
  refine wp_at (fun W => W.heap[w.heap.size]? = some (.cells (powC 0).toArray 418 (0, 0)) ∧ Fr noBlock w W) ⟨heap_new w _, (Fr.refl noBlock w).alloc _⟩ ?_
  rintro w1 ⟨b1, f1⟩
  have HB1 := Lib.hid b1
  have HF1 := Lib.hid f1
  obtain ⟨g, hg⟩ : ∃ g, w.heap.size = g := ⟨_, rfl⟩
  have HG := Lib.hid hg
  rw [hg] at HB1 ⊢
  clear b1 f1 hg
  go_wp2_with fail
  go_loopw [1, 3] (fun s1 s3 W => ∃ i : Nat, i ≤ 16 ∧ s3 = .int .i64 (i : Int) ∧ Hid (W.heap[g]? = some (.cells (powC i).toArray 418 (0, 0))) ∧ Hid (Fr noBlock w W)) (fun _ s3 _ => 16 - (intOf s3).toNat)
  case atStart => exact ⟨0, by omega, rfl, HB1, HF1⟩
  case round =>
    clear HB1 HF1
    obtain ⟨i, hi, rfl, HB, HF⟩ := hrel
    by_cases hlt : i < 16
    · have q1 : (i : Int) < 16 := by omega
      have q2 : (0 : Int) ≤ (i : Int) := by omega
      have q3 : wrap64 ((i : Int) + 1) = (i : Int) + 1 := by unfold wrap64; omega
      have q4 : (i : Int) < 17 := by omega
      have q5 : (i : Int) + 1 < 17 := by omega
      have z1 : wr.cell? ⟨g, i, none⟩ = some (.int .i64 ((10 ^ i : Nat) : Int)) := by
        rw [cell_of HB.out, List.getElem?_toArray, powC_get (by omega), if_pos (Nat.le_refl _)]
      have z2 : wr.cell? ⟨g, i + 1, none⟩ = some (.int .i64 0) := by
        rw [cell_of HB.out, List.getElem?_toArray, powC_get (by omega), if_neg (by omega)]
        rfl
      have z3 := free_of HB.out (i + 1)
      have hp := pow_le16 (Nat.le_of_lt hlt)
      have hps : 10 * 10 ^ i = 10 ^ (i + 1) := by rw [Nat.pow_succ, Nat.mul_comm]
      obtain ⟨x, hx⟩ : ∃ x : Nat, 10 ^ i = x := ⟨_, rfl⟩
      rw [hx] at z1 hp hps
      have q6 : wrap64 (10 * (x : Int)) = 10 * (x : Int) := by unfold wrap64; omega
      have HN := Lib.hid (show (wr.setCell ⟨g, i + 1, none⟩ (.int .i64 (10 * (x : Int)))).heap[g]? = some (.cells (powC (i + 1)).toArray 418 (0, 0)) by
        rw [heap_set_eq HB.out, show (10 : Int) * (x : Int) = ((10 ^ (i + 1) : Nat) : Int) by omega, powC_set hlt])
      have HF2 := Lib.hid (HF.out.setCell (p := ⟨g, i + 1, none⟩) (.inr (by have := HG.out; show w.heap.size ≤ g; omega)) (.int .i64 (10 * (x : Int))))
      clear hps hx hp HB HF
      go_wp2_with fail
      go_roundw
      case rel => exact ⟨i + 1, by omega, by go_num, HN, HF2⟩
      case measure => simp [intOf]; omega
    · obtain rfl : i = 16 := by omega
      have hinfo : (Tryz.prog.info? 418).map (·.size) = some (powC 16).toArray.size := by kernel_rfl
      have Hinfo := Lib.hid hinfo
      clear hinfo
      have hone : ∀ v ∈ powC 16, v.oneCell' = true := by
        intro v hv
        simp only [powC, List.mem_map] at hv
        obtain ⟨k, _, rfl⟩ := hv
        rfl
      have hst : (storeCells ⟨g, 0, none⟩ (powC 16)).run Tryz.prog wr = .ok () wr := by
        have := run_storeCells_at Tryz.prog g 0 418 (powC 16) 0 _ wr HB.out (by simp) hone
        rw [this]
        simp only [Nat.zero_add, List.take_zero, List.nil_append, List.drop_length, List.append_nil]
        rw [setRow_self wr g _ _ _ HB.out]
      clear hone
      go_wp2_with (with_reducible refine wpList_load_row rfl _ _ rfl g rfl _ _ _ _ HB.out Tryz.underlying418 rfl Hinfo.out ?_)
      exact bodyPost_ret (v := .agg (powC 16).toArray) (results_cell_row Tryz.results366 _ _ g _ _ _ _ rfl HB.out Tryz.underlying418 rfl Hinfo.out) rfl ⟨rfl, HF.out⟩
def zer17 : Array Value := #[.int .i64 0, .int .i64 0, .int .i64 0, .int .i64 0, .int .i64 0, .int .i64 0, .int .i64 0, .int .i64 0, .int .i64 0, .int .i64 0, .int .i64 0, .int .i64 0, .int .i64 0, .int .i64 0, .int .i64 0, .int .i64 0, .int .i64 0]
theorem store_pow (w : World) : (storeCells ⟨w.heap.size, 0, none⟩ (powC 16)).run Tryz.prog (w.alloc (.cells zer17 418)) = .ok () (w.alloc (.cells (powC 16).toArray 418)) := by
  have hone : ∀ v ∈ powC 16, v.oneCell' = true := by
    intro v hv
    simp only [powC, List.mem_map] at hv
    obtain ⟨k, _, rfl⟩ := hv
    rfl
  rw [run_storeCells_at Tryz.prog w.heap.size 0 418 (powC 16) 0 zer17 _ (heap_new w _) (by decide) hone, World.setRow_alloc_new]
  rfl
def powN (m : Int) : Int := if m < 1 ∨ 16 < m then 0 else ((10 ^ m.toNat : Nat) : Int)
set_option maxRecDepth 100000 in
set_option maxHeartbeats 3200000 in
theorem power_any (m : Int) (w : World) : Calls Tryz.prog 333 #[.int .i64 m] w fun e w' => e = .returned (.int .i64 (powN m)) ∧ Fr noBlock w w' := by
  have HP := Lib.hid (fun W => powers_any W)
  by_cases h1 : m < 1
  · unfold powN
    rw [if_pos (.inl h1)]
    go_enter Tryz.func333, Tryz.ntmps333
    go_wp2_with fail
    go_ret
    exact ⟨rfl, Fr.refl _ _⟩
  · by_cases h16 : 16 < m
    · have q1 : ¬ m < 1 := h1
      unfold powN
      rw [if_pos (.inr h16)]
      go_enter Tryz.func333, Tryz.ntmps333
      go_wp2_with fail
      go_ret
      exact ⟨rfl, Fr.refl _ _⟩
    · obtain ⟨k, rfl⟩ : ∃ k : Nat, m = (k : Int) := ⟨m.toNat, by omega⟩
      have q1 : (1 : Int) ≤ (k : Int) := by omega
      have q2 : (k : Int) ≤ 16 := by omega
      have q3 : (k : Int) < 17 := by omega
      have q4 : (0 : Int) ≤ (k : Int) := by omega
      unfold powN
      rw [if_neg (by omega), Int.toNat_natCast]
      obtain ⟨x, hx⟩ : ∃ x : Nat, 10 ^ k = x := ⟨_, rfl⟩
      have HXx := Lib.hid hx
      rw [hx]
      clear hx
      have HK := Lib.hid (show k ≤ 16 by omega)
      clear h1 h16
      go_enter Tryz.func333, Tryz.ntmps333
      go_wp2_with fail
      refine (HP.out _).mono ?_
      rintro e w1 ⟨rfl, f1⟩
      have hst := store_pow w1
      unfold zer17 at hst
      have hb := heap_new w1 (.cells (powC 16).toArray 418)
      have z1 : (w1.alloc (.cells (powC 16).toArray 418)).cell? ⟨w1.heap.size, k, none⟩ = some (.int .i64 ((10 ^ k : Nat) : Int)) := by
        rw [cell_of hb, List.getElem?_toArray, powC_get (by have := HK.out; omega), if_pos HK.out]
      have HF := Lib.hid (f1.alloc (.cells (powC 16).toArray 418))
      rw [HXx.out] at z1
      clear hb f1 HP
      go_wp2_with fail
      go_ret
      exact ⟨rfl, HF.out⟩
end Go.Proofs.YtajhgejhdalobaaGreatDoor
namespace Go.Proofs.YtajhgejhdalobaaGreatDoor
open Go.RowKit

theorem powN_at {m : Nat} (h1 : 1 ≤ m) (h16 : m ≤ 16) : powN (m : Int) = ((10 ^ m : Nat) : Int) := by
  unfold powN
  rw [if_neg (by omega), Int.toNat_natCast]
set_option maxRecDepth 100000 in
set_option maxHeartbeats 1600000 in
theorem both_ok {a b m : Nat} (h1 : 1 ≤ m) (h16 : m ≤ 16) (ha : a < 10 ^ m) (hb : b < 10 ^ m) (w : World) : Calls Tryz.prog 288 #[.int .i64 (a : Int), .int .i64 (b : Int), .int .i64 (m : Int)] w fun e w' => e = .returned (.tuple #[.int .i64 ((10 ^ m : Nat) : Int), .bool true]) ∧ Fr noBlock w w' := by
  have HP := Lib.hid (fun W => power_any (m : Int) W)
  rw [powN_at h1 h16] at HP
  obtain ⟨x, hx⟩ : ∃ x : Nat, 10 ^ m = x := ⟨_, rfl⟩
  rw [hx] at HP ha hb ⊢
  have q1 : (0 : Int) ≤ (a : Int) := by omega
  have q2 : (0 : Int) ≤ (b : Int) := by omega
  have q3 : (a : Int) < (x : Int) := by omega
  have q4 : (b : Int) < (x : Int) := by omega
  clear hx ha hb
  go_enter Tryz.func288, Tryz.ntmps288
  go_wp2_with fail
  refine (HP.out _).mono ?_
  rintro e w1 ⟨rfl, f1⟩
  have HF := Lib.hid f1
  clear f1 HP
  go_wp2_with fail
  go_ret2
  exact ⟨rfl, HF.out⟩
set_option maxRecDepth 100000 in
set_option maxHeartbeats 1600000 in
theorem radd_ok {a b m : Nat} (h1 : 1 ≤ m) (h16 : m ≤ 16) (ha : a < 10 ^ m) (hb : b < 10 ^ m) (w : World) : Calls Tryz.prog 239 #[.int .i64 (a : Int), .int .i64 (b : Int), .int .i64 (m : Int)] w fun e w' => e = .returned (.tuple #[.int .i64 (((a + b) % 10 ^ m : Nat) : Int), .int .i64 0]) ∧ Fr noBlock w w' := by
  have HB := Lib.hid (fun W => both_ok h1 h16 ha hb W)
  have hp := pow_le16 h16
  obtain ⟨x, hx⟩ : ∃ x : Nat, 10 ^ m = x := ⟨_, rfl⟩
  rw [hx] at HB ha hb hp ⊢
  clear hx h1 h16
  have q5 : wrap64 ((x : Int) - (b : Int)) = (x : Int) - (b : Int) := by unfold wrap64; omega
  by_cases hge : x ≤ a + b
  · have q1 : (x : Int) - (b : Int) ≤ (a : Int) := by omega
    have q6 : wrap64 ((a : Int) - ((x : Int) - (b : Int))) = (a : Int) - ((x : Int) - (b : Int)) := by unfold wrap64; omega
    have HE := Lib.hid (show (((a + b) % x : Nat) : Int) = (a : Int) - ((x : Int) - (b : Int)) by rw [Nat.mod_eq_sub_mod hge, Nat.mod_eq_of_lt (by omega)]; omega)
    rw [HE.out]
    clear ha hb hp hge
    go_enter Tryz.func239, Tryz.ntmps239
    go_wp2_with fail
    refine (HB.out _).mono ?_
    rintro e w1 ⟨rfl, f1⟩
    have HF := Lib.hid f1
    clear f1 HB
    go_wp2_with fail
    go_ret2
    exact ⟨by show Ending.returned (.tuple #[.int .i64 (wrap64 _), .int .i64 0]) = _; rw [q6], HF.out⟩
  · have q1 : ¬ (x : Int) - (b : Int) ≤ (a : Int) := by omega
    have q6 : wrap64 ((a : Int) + (b : Int)) = (a : Int) + (b : Int) := by unfold wrap64; omega
    have HE := Lib.hid (show (((a + b) % x : Nat) : Int) = (a : Int) + (b : Int) by rw [Nat.mod_eq_of_lt (by omega)]; omega)
    rw [HE.out]
    clear ha hb hp hge
    go_enter Tryz.func239, Tryz.ntmps239
    go_wp2_with fail
    refine (HB.out _).mono ?_
    rintro e w1 ⟨rfl, f1⟩
    have HF := Lib.hid f1
    clear f1 HB
    go_wp2_with fail
    go_ret2
    exact ⟨by show Ending.returned (.tuple #[.int .i64 (wrap64 _), .int .i64 0]) = _; rw [q6], HF.out⟩
set_option maxRecDepth 100000 in
set_option maxHeartbeats 1600000 in
theorem rsub_ok {a b m : Nat} (h1 : 1 ≤ m) (h16 : m ≤ 16) (ha : a < 10 ^ m) (hb : b < 10 ^ m) (w : World) : Calls Tryz.prog 220 #[.int .i64 (a : Int), .int .i64 (b : Int), .int .i64 (m : Int)] w fun e w' => e = .returned (.tuple #[.int .i64 (((a + (10 ^ m - b)) % 10 ^ m : Nat) : Int), .int .i64 0]) ∧ Fr noBlock w w' := by
  have HB := Lib.hid (fun W => both_ok h1 h16 ha hb W)
  have hp := pow_le16 h16
  obtain ⟨x, hx⟩ : ∃ x : Nat, 10 ^ m = x := ⟨_, rfl⟩
  rw [hx] at HB ha hb hp ⊢
  clear hx h1 h16
  by_cases hlt : a < b
  · have q1 : (a : Int) < (b : Int) := by omega
    have q5 : wrap64 ((x : Int) - (b : Int)) = (x : Int) - (b : Int) := by unfold wrap64; omega
    have q6 : wrap64 ((a : Int) + ((x : Int) - (b : Int))) = (a : Int) + ((x : Int) - (b : Int)) := by unfold wrap64; omega
    have HE := Lib.hid (show (((a + (x - b)) % x : Nat) : Int) = (a : Int) + ((x : Int) - (b : Int)) by rw [Nat.mod_eq_of_lt (by omega)]; omega)
    rw [HE.out]
    clear ha hb hp hlt
    go_enter Tryz.func220, Tryz.ntmps220
    go_wp2_with fail
    refine (HB.out _).mono ?_
    rintro e w1 ⟨rfl, f1⟩
    have HF := Lib.hid f1
    clear f1 HB
    go_wp2_with fail
    go_ret2
    exact ⟨by show Ending.returned (.tuple #[.int .i64 (wrap64 _), .int .i64 0]) = _; rw [q6], HF.out⟩
  · have q1 : ¬ (a : Int) < (b : Int) := by omega
    have q6 : wrap64 ((a : Int) - (b : Int)) = (a : Int) - (b : Int) := by unfold wrap64; omega
    have HE := Lib.hid (show (((a + (x - b)) % x : Nat) : Int) = (a : Int) - (b : Int) by rw [show a + (x - b) = (a - b) + x by omega, Nat.add_mod_right, Nat.mod_eq_of_lt (by omega)]; omega)
    rw [HE.out]
    clear ha hb hp hlt
    go_enter Tryz.func220, Tryz.ntmps220
    go_wp2_with fail
    refine (HB.out _).mono ?_
    rintro e w1 ⟨rfl, f1⟩
    have HF := Lib.hid f1
    clear f1 HB
    go_wp2_with fail
    go_ret2
    exact ⟨by show Ending.returned (.tuple #[.int .i64 (wrap64 _), .int .i64 0]) = _; rw [q6], HF.out⟩
def widN (m : Nat) : Nat := if m = 5 then 3 else 2
set_option maxRecDepth 100000 in
set_option maxHeartbeats 1600000 in
theorem width_ok {m : Nat} (h : m = 3 ∨ m = 4 ∨ m = 5) (w : World) : Calls Tryz.prog 289 #[.int .i64 (m : Int)] w fun e w' => e = .returned (.int .i64 (widN m : Int)) ∧ Fr noBlock w w' := by
  have HP := Lib.hid (fun W => power_any (m : Int) W)
  rw [powN_at (by omega) (by omega)] at HP
  have HL := Lib.hid (fun W => Tryz.bits_Len ((10 ^ m : Nat) - 1 : Int) W (by rcases h with rfl | rfl | rfl <;> decide) (by rcases h with rfl | rfl | rfl <;> decide))
  have hb3 : Lib.bitLen 999 = 10 := by decide
  have hb4 : Lib.bitLen 9999 = 14 := by decide
  have hb5 : Lib.bitLen 99999 = 17 := by decide
  rcases h with rfl | rfl | rfl
  all_goals
    go_enter Tryz.func289, Tryz.ntmps289
    go_wp2_with fail
    refine (HP.out _).mono ?_
    rintro e w1 ⟨rfl, f1⟩
    have HF := Lib.hid f1
    clear f1 HP
    go_wp2_with fail
    refine (HL.out _).mono ?_
    rintro e w2 ⟨rfl, rfl⟩
    first | rw [show ((10 ^ 3 : Nat) - 1 : Int).toNat = 999 from rfl, hb3] | rw [show ((10 ^ 4 : Nat) - 1 : Int).toNat = 9999 from rfl, hb4] | rw [show ((10 ^ 5 : Nat) - 1 : Int).toNat = 99999 from rfl, hb5]
    go_wp2_with fail
    go_ret
    exact ⟨rfl, HF.out⟩
end Go.Proofs.YtajhgejhdalobaaGreatDoor
namespace Go.Proofs.YtajhgejhdalobaaGreatDoor
open Go.RowKit

def restB (p : Nat) (b : Bs) : Nat := b.foldl (fun n c => (n * 256 + c.toNat) % p) 0
theorem restB_take {p : Nat} {b : Bs} {j : Nat} (h : j < b.length) : restB p (b.take (j + 1)) = (restB p (b.take j) * 256 + b[j].toNat) % p := by
  unfold restB
  rw [List.take_succ_eq_append_getElem h, List.foldl_append]
  rfl
theorem restB_lt {p : Nat} (hp : 0 < p) (b : Bs) : restB p b < p := by
  unfold restB
  have g : ∀ (l : Bs) (n : Nat), n < p → l.foldl (fun n c => (n * 256 + c.toNat) % p) n < p := by
    intro l
    induction l with
    | nil => intro n h; exact h
    | cons c l ih => intro n _; exact ih _ (Nat.mod_lt _ hp)
  exact g b 0 hp
set_option maxRecDepth 100000 in
set_option maxHeartbeats 1600000 in
theorem rest_ok {w : World} {ao : Option Addr} {b : Bs} (hb : RowRd ByteR w ao b) (cap : Nat) (hl : b.length ≤ 64) {m : Nat} (h1 : 1 ≤ m) (h16 : m ≤ 16) : Calls Tryz.prog 293 #[.slice ao b.length cap, .int .i64 (m : Int)] w fun e w' => e = .returned (.tuple #[.int .i64 (restB (10 ^ m) b : Int), .int .i64 0]) ∧ Fr noBlock w w' := by
  have HP := Lib.hid (fun W => power_any (m : Int) W)
  rw [powN_at h1 h16] at HP
  have hp := pow_le16 h16
  have hp0 : 0 < 10 ^ m := Nat.pow_pos (by decide)
  obtain ⟨p, hpe⟩ : ∃ p : Nat, 10 ^ m = p := ⟨_, rfl⟩
  rw [hpe] at HP hp hp0 ⊢
  clear hpe h1 h16
  have HB := Lib.hid hb
  have q1 : (b.length : Int) ≤ 64 := by omega
  have q2 : (p : Int) % 18446744073709551616 = (p : Int) := by omega
  have q3 : IntKind.u64.wrap (p : Int) = (p : Int) := by rw [IntKind.wrap_u64]; omega
  have q4 : ((p : Int) == 0) = false := by simp; omega
  have q5 : ¬ (p : Int) = 0 := by omega
  clear hb
  go_enter Tryz.func293, Tryz.ntmps293
  go_wp2_with fail
  refine (HP.out _).mono ?_
  rintro e w1 ⟨rfl, f1⟩
  have HF1 := Lib.hid f1
  clear f1 HP
  go_wp2_with fail
  go_loopw [7, 8, 21] (fun s7 s8 s21 W => ∃ j : Nat, j ≤ b.length ∧ s21 = .int .i64 j ∧ s7 = .int .u64 (restB p (b.take j) : Int) ∧ Hid (Fr noBlock w W)) (fun _ _ s21 _ => b.length - (intOf s21).toNat)
  case atStart => exact ⟨0, by omega, rfl, rfl, HF1⟩
  case round =>
    clear HF1
    obtain ⟨j, hj, rfl, rfl, HF⟩ := hrel
    by_cases hlt : j < b.length
    · have q9 : (j : Int) < (b.length : Int) := by omega
      have q10 : (0 : Int) ≤ (j : Int) := by omega
      obtain ⟨bg, off, rfl, -⟩ := byte_addr HB.out (i := 0) (by omega)
      have y0 := byte_rd (HB.out.fr0 HF.out) hlt
      have HN := Lib.hid (restB_take (p := p) hlt)
      have hx := restB_lt hp0 (b.take j)
      obtain ⟨x, hxe⟩ : ∃ x, restB p (b.take j) = x := ⟨_, rfl⟩
      rw [hxe] at hx HN ⊢
      unfold byteV at y0
      generalize b[j] = c at *
      have hc := c.toNat_lt
      have q11 : (x : Int) * 256 % 18446744073709551616 = (x : Int) * 256 := by omega
      have q12 : (c.toNat : Int) % 18446744073709551616 = (c.toNat : Int) := by omega
      have q13 : IntKind.u64.wrap (c.toNat : Int) = (c.toNat : Int) := by rw [IntKind.wrap_u64]; omega
      have HV := Lib.hid (or_u64 x c (by omega))
      clear hx hxe hc
      go_wp2_with fail
      go_roundw
      case rel =>
        refine ⟨j + 1, hlt, by go_num, ?_, HF⟩
        rw [HN.out]
        rw [HV.out, ← Int.ofNat_tmod]
      case measure => simp [intOf]; omega
    · have q9 : (b.length : Int) ≤ (j : Int) := by omega
      obtain rfl : j = b.length := by omega
      rw [List.take_length]
      have hx := restB_lt hp0 b
      obtain ⟨x, hxe⟩ : ∃ x, restB p b = x := ⟨_, rfl⟩
      rw [hxe] at hx ⊢
      have q11 : wrap64 (x : Int) = (x : Int) := by unfold wrap64; omega
      have q12 : IntKind.i64.wrap (x : Int) = (x : Int) := by rw [IntKind.wrap_i64]; omega
      have HX := Lib.hid hxe
      clear hx hxe
      go_wp2_with fail
      go_ret2
      exact ⟨by rw [HX.out]; rfl, HF.out⟩
end Go.Proofs.YtajhgejhdalobaaGreatDoor
namespace Go.Proofs.YtajhgejhdalobaaGreatDoor

def beN (n : Nat) : Nat → Bs
  | 0 => []
  | k + 1 => UInt8.ofNat (n / 256 ^ k) :: beN n k
theorem beN_len (n : Nat) : ∀ k, (beN n k).length = k
  | 0 => rfl
  | k + 1 => by show (beN n k).length + 1 = k + 1; rw [beN_len n k]
def xorL (a b : Bs) : Bs := List.zipWith (· ^^^ ·) a b
theorem xorL_len {a b : Bs} (ha : a.length = 16) (hb : b.length = 16) : (xorL a b).length = 16 := by unfold xorL; rw [List.length_zipWith, ha, hb]; rfl
def chainN (key p : Bs) : Nat → Bs
  | 0 => List.replicate 16 0
  | k + 1 => aesE key (xorL (chainN key p k) ((p.drop (16 * k)).take 16))
def chainB (key p : Bs) : Bs := chainN key p (p.length / 16)
theorem chain_len {key p : Bs} (hk : key.length = 32) : ∀ k, 16 * k ≤ p.length → (chainN key p k).length = 16
  | 0, _ => by simp [chainN]
  | k + 1, h => aesE_len hk (xorL_len (chain_len hk k (by omega)) (by rw [List.length_take, List.length_drop]; omega))
def headB (n : Nat) (tl : Bs) : Bs := [1, 2, 1, 0, 0, 10, 10, UInt8.ofNat (n / 2)] ++ beN n 4 ++ beN tl.length 4 ++ tl
def tailB (n i b : Nat) : Bs := UInt8.ofNat i :: beN b (widN (n - n / 2))
def fillB (n : Nat) (tl : Bs) : Bs := List.replicate ((48 - tl.length - (1 + widN (n - n / 2))) % 16) 0
def maskK (key tl : Bs) (n i b : Nat) : Nat := restB (10 ^ halfN n i) ((chainB key (headB n tl ++ fillB n tl ++ tailB n i b)).take 8)
theorem maskK_lt (key tl : Bs) (n i b : Nat) : maskK key tl n i b < 10 ^ halfN n i := restB_lt (Nat.pow_pos (by decide)) _
theorem tailB_len (n i b : Nat) : (tailB n i b).length = 1 + widN (n - n / 2) := by unfold tailB; rw [List.length_cons, beN_len]; omega
theorem data_len {n : Nat} (h6 : 6 ≤ n) (h9 : n ≤ 9) {tl : Bs} (ht : tl.length = 10) (i b : Nat) : (headB n tl ++ fillB n tl ++ tailB n i b).length = 32 := by
  rw [List.length_append, List.length_append, tailB_len]
  unfold headB fillB
  rw [List.length_append, List.length_append, List.length_append, beN_len, beN_len, List.length_replicate, ht]
  have h : n = 6 ∨ n = 7 ∨ n = 8 ∨ n = 9 := by omega
  rcases h with rfl | rfl | rfl | rfl <;> rfl
end Go.Proofs.YtajhgejhdalobaaGreatDoor
namespace Go.Proofs.YtajhgejhdalobaaGreatDoor
open Go.RowKit

def arrL (n k i : Nat) : Bs := List.replicate (k - i) 0 ++ textB n i ++ List.replicate (19 - k) 0
theorem arrL_len {n k i : Nat} (hi : i ≤ k) (hk : k ≤ 19) : (arrL n k i).length = 19 := by unfold arrL; simp [textB_len]; omega
theorem arrL_next {n k i : Nat} (hi : i < k) : arrL n k (i + 1) = (arrL n k i).set (k - 1 - i) (UInt8.ofNat (48 + n / 10 ^ i % 10)) := by
  unfold arrL
  rw [textB, show k - i = (k - (i + 1)) + 1 by omega, List.replicate_succ', List.append_assoc, List.append_assoc, List.append_assoc, List.set_append_right _ _ (by simp; omega)]
  simp only [List.length_replicate]
  rw [show k - 1 - i - (k - (i + 1)) = 0 by omega]
  rfl
theorem arrL_all (n k : Nat) : (arrL n k k).take k = textB n k := by
  unfold arrL
  rw [Nat.sub_self, List.replicate_zero, List.nil_append, List.take_left' (textB_len n k)]
theorem arrL_zero (n k : Nat) (hk : k ≤ 19) : arrL n k 0 = List.replicate 19 0 := by
  unfold arrL
  rw [textB, List.append_nil, List.replicate_append_replicate]
  congr 1
  omega
theorem arr_row {w : World} {b : Nat} {cur : Array Value} {t : TypeId} {f : Nat × Nat} {L : Bs} (h : w.heap[b]? = some (.cells cur t f)) (hc : cur.toList = ByteR.flat L) (hl : L.length ≤ maxLen) (k : Nat) : RowRd ByteR w (some ⟨b, 0, none⟩) (L.take k) := RowRd.takeN (RowRd.of_flat h hc hl) k
def ArrAt (w : World) (b : Nat) (L : Bs) : Prop := ∃ cur : Array Value, w.heap[b]? = some (.cells cur 425 (0, 0)) ∧ cur.toList = ByteR.flat L
theorem ArrAt.start (w : World) : ArrAt (w.alloc (.cells #[.int .u8 0, .int .u8 0, .int .u8 0, .int .u8 0, .int .u8 0, .int .u8 0, .int .u8 0, .int .u8 0, .int .u8 0, .int .u8 0, .int .u8 0, .int .u8 0, .int .u8 0, .int .u8 0, .int .u8 0, .int .u8 0, .int .u8 0, .int .u8 0, .int .u8 0] 425)) w.heap.size (List.replicate 19 0) := ⟨_, heap_new w _, rfl⟩
set_option maxRecDepth 100000 in
set_option maxHeartbeats 1600000 in
theorem dtext_any (n k : Nat) (w : World) (hk : 1 ≤ k ∧ k ≤ 19) (hn : n < 10 ^ k) (hn63 : n ≤ 9223372036854775807) : Calls Tryz.prog 335 #[.int .i64 n, .int .i64 k] w fun e w' => e = .returned (.tuple #[.string (strB (textB n k)), .int .i64 0]) ∧ Fr noBlock w w' := by
  obtain ⟨hk1, hk2⟩ := hk
  have q1 : (1 : Int) ≤ (k : Int) := by omega
  have q2 : (k : Int) ≤ 19 := by omega
  have q3 : (0 : Int) ≤ (n : Int) := by omega
  have q4 : (n : Int) ≤ 9223372036854775807 := by omega
  have d1 : decide ((n : Int) < 0) = false := by simp
  have d2 : decide ((k : Int) < 1) = false := by simp; omega
  have d3 : decide (19 < (k : Int)) = false := by simp; omega
  have Hn := Lib.hid hn
  have H0 := Lib.hid (And.intro ((Fr.refl noBlock w).alloc (.cells #[.int .u8 0, .int .u8 0, .int .u8 0, .int .u8 0, .int .u8 0, .int .u8 0, .int .u8 0, .int .u8 0, .int .u8 0, .int .u8 0, .int .u8 0, .int .u8 0, .int .u8 0, .int .u8 0, .int .u8 0, .int .u8 0, .int .u8 0, .int .u8 0, .int .u8 0] 425)) (by rw [arrL_zero n k hk2]; exact ArrAt.start w : ArrAt (w.alloc (.cells #[.int .u8 0, .int .u8 0, .int .u8 0, .int .u8 0, .int .u8 0, .int .u8 0, .int .u8 0, .int .u8 0, .int .u8 0, .int .u8 0, .int .u8 0, .int .u8 0, .int .u8 0, .int .u8 0, .int .u8 0, .int .u8 0, .int .u8 0, .int .u8 0, .int .u8 0] 425)) w.heap.size (arrL n k 0)))
  clear hn
  go_enter Tryz.func335, Tryz.ntmps335
  go_wp2_with fail
  go_loopw [0, 19] (fun s0 s19 wr => ∃ i : Nat, i ≤ k ∧ s19 = .int .i64 i ∧ s0 = .int .i64 ((n / 10 ^ i : Nat) : Int) ∧ Hid (Fr noBlock w wr ∧ ArrAt wr w.heap.size (arrL n k i))) (fun _ s19 _ => k - (intOf s19).toNat)
  case atStart => exact ⟨0, Nat.zero_le _, rfl, by simp, H0⟩
  case round =>
    obtain ⟨i, hi, rfl, rfl, HI⟩ := hrel
    clear H0
    by_cases hlt : i < k
    · have h1 : (i : Int) < (k : Int) := by omega
      have hi1 : i + 1 ≤ k := hlt
      obtain ⟨hfr, cur, hb, hcur⟩ := HI.out
      have hnx := arrL_next (n := n) hlt
      have hq1 : n / 10 ^ (i + 1) = n / 10 ^ i / 10 := by rw [Nat.pow_succ, Nat.div_div_eq_div_mul]
      have hle : n / 10 ^ i ≤ n := Nat.div_le_self _ _
      have hlen : cur.size = 19 := by
        have := congrArg List.length hcur
        rw [ByteR.flat_len, byteK, Nat.mul_one, arrL_len hi hk2] at this
        simpa using this
      obtain ⟨r, hr⟩ : ∃ r : Nat, (k : Int) - 1 - (i : Int) = (r : Int) := ⟨k - 1 - i, by omega⟩
      have hrn : k - 1 - i = r := by omega
      rw [hrn] at hnx
      have hr19 : r < 19 := by omega
      have hrI : (r : Int) < 19 := by omega
      obtain ⟨c0, y0⟩ : ∃ c0, wr.cell? ⟨w.heap.size, r, none⟩ = some c0 := ⟨cur[r]'(by omega), by rw [cell_of hb]; exact Array.getElem?_eq_getElem (by omega)⟩
      have z0 := free_of hb r
      generalize n / 10 ^ i = q at *
      have hv : (48 : Int) + (q : Int) % 10 = ((UInt8.ofNat (48 + q % 10)).toNat : Int) := by rw [UInt8.toNat_ofNat']; omega
      have HB := Lib.hid (show ArrAt (wr.setCell ⟨w.heap.size, r, none⟩ (.int .u8 ((UInt8.ofNat (48 + q % 10)).toNat : Int))) w.heap.size (arrL n k (i + 1)) by
        refine ⟨_, heap_set_eq hb, ?_⟩
        rw [Array.toList_setIfInBounds, hcur, hnx, flat_bytes, flat_bytes, List.map_set])
      have HF := Lib.hid hfr
      rw [← hv] at HB
      have HQ := Lib.hid hq1
      clear hfr hb hcur hnx hlen hrn HI hq1 hv hlt
      go_wp2_with fail
      go_roundw
      case rel => exact ⟨i + 1, hi1, by go_num, by rw [HQ.out]; rfl, Lib.hid ⟨HF.out.setCell (p := ⟨w.heap.size, r, none⟩) (.inr (Nat.le_refl _)) _, HB.out⟩⟩
      case measure => simp [intOf]; omega
    · have h1 : (k : Int) ≤ (i : Int) := by omega
      have e : i = k := by omega
      subst e
      have h0 : n / 10 ^ i = 0 := Nat.div_eq_of_lt Hn.out
      rw [h0]
      obtain ⟨hfr, cur, hb, hcur⟩ := HI.out
      have hr := arr_row hb hcur (by rw [arrL_len hi hk2]; decide) i
      rw [arrL_all] at hr
      have hcv := conv_rd hr 19
      rw [textB_len] at hcv
      have HF := Lib.hid hfr
      clear hfr hb hcur hr HI hlt h0
      go_wp2_with fail
      go_ret2
      exact ⟨rfl, HF.out⟩
end Go.Proofs.YtajhgejhdalobaaGreatDoor
namespace Go.Proofs.YtajhgejhdalobaaGreatDoor
open Go.RowKit

theorem half_any (n i : Nat) (hn : n ≤ 1000) (hi : i ≤ 1000) (w : World) : Calls Tryz.prog 222 #[.int .i64 (n : Int), .int .i64 (i : Int)] w fun e w' => e = .returned (.int .i64 (halfN n i : Int)) ∧ w = w' := by
  have HE := Lib.hid (show ((halfN n i : Nat) : Int) = ((n : Int) + (i : Int) % 2) / 2 by
    unfold halfN
    omega)
  rw [HE.out]
  have q1 : (n : Int) ≤ 1000 := by omega
  have q2 : (i : Int) ≤ 1000 := by omega
  go_enter Tryz.func222, Tryz.ntmps222
  go_wp2_with fail
  go_ret
  exact ⟨rfl, rfl⟩
theorem may_ok (n : Nat) (h6 : 6 ≤ n) (h9 : n ≤ 32) (w : World) : Calls Tryz.prog 286 #[.int .i64 (n : Int)] w fun e w' => e = .returned (.bool true) ∧ w = w' := by
  have q1 : (6 : Int) ≤ (n : Int) := by omega
  have q2 : (n : Int) ≤ 32 := by omega
  go_enter Tryz.func286, Tryz.ntmps286
  go_wp2_with fail
  go_ret
  exact ⟨rfl, rfl⟩
theorem rvalue_ok (s : ByteArray) (hd : (bl s).all isDig = true) (h0 : 1 ≤ s.size) (h16 : s.size ≤ 16) (w : World) : Calls Tryz.prog 287 #[.string s] w fun e w' => e = .returned (.tuple #[.int .i64 (numB (bl s) : Int), .int .i64 0]) ∧ w = w' := by
  have HN := Lib.hid (fun W => number_all s W (by unfold maxLen; omega))
  have hlt := numL_lt hd
  have hp : 10 ^ (bl s).length ≤ 10 ^ 16 := Nat.pow_le_pow_right (by omega) (by rw [bl_len]; omega)
  have e : numR (bl s) = (numB (bl s), 0) := by
    unfold numR
    rw [if_neg (by rw [hd]; simp), if_neg (by rw [bl_len]; omega), if_neg (by intro e; have := bl_len s; rw [e] at this; simp at this; omega), if_neg (by omega)]
  rw [e] at HN
  have q0 : s.toList.isEmpty = false := empty_no (by omega)
  have q1 : (s.size : Int) ≤ 16 := by omega
  clear hd hlt hp e h0
  go_enter Tryz.func287, Tryz.ntmps287
  go_wp2_with fail
  refine (HN.out _).mono ?_
  rintro e w1 ⟨rfl, rfl⟩
  go_wp2_with fail
  go_ret2
  exact ⟨rfl, rfl⟩
set_option maxHeartbeats 800000 in
theorem rdigits_ok (n m : Nat) (h1 : 1 ≤ m) (h16 : m ≤ 16) (hn : n < 10 ^ m) (w : World) : Calls Tryz.prog 294 #[.int .i64 (n : Int), .int .i64 (m : Int)] w fun e w' => e = .returned (.tuple #[.string (strB (textB n m)), .int .i64 0]) ∧ Fr noBlock w w' := by
  have HP := Lib.hid (fun W => power_any (m : Int) W)
  rw [powN_at h1 h16] at HP
  have hp := pow_le16 h16
  have HT := Lib.hid (fun W => dtext_any n m W ⟨h1, by omega⟩ hn (by omega))
  obtain ⟨x, hx⟩ : ∃ x : Nat, 10 ^ m = x := ⟨_, rfl⟩
  rw [hx] at HP hn
  have q1 : (0 : Int) ≤ (n : Int) := by omega
  have q2 : (n : Int) < (x : Int) := by omega
  clear hx hp hn
  go_enter Tryz.func294, Tryz.ntmps294
  go_wp2_with fail
  refine (HP.out _).mono ?_
  rintro e w1 ⟨rfl, f1⟩
  have HF := Lib.hid f1
  clear f1 HP
  go_wp2_with fail
  refine (HT.out _).mono ?_
  rintro e w2 ⟨rfl, f2⟩
  have HF2 := Lib.hid (HF.out.trans' f2)
  clear f2 HT HF
  go_wp2_with fail
  go_ret2
  exact ⟨rfl, HF2.out⟩
set_option maxHeartbeats 800000 in
theorem halves_ok (s : ByteArray) (hd : (bl s).all isDig = true) (h6 : 6 ≤ s.size) (h9 : s.size ≤ 32) (w : World) : Calls Tryz.prog 219 #[.string s] w fun e w' => e = .returned (.tuple #[.int .i64 ((halvesB (bl s)).1 : Int), .int .i64 ((halvesB (bl s)).2 : Int), .int .i64 0]) ∧ w = w' := by
  have HM := Lib.hid (fun W => may_ok s.size h6 h9 W)
  obtain ⟨h, hh⟩ : ∃ h, s.size / 2 = h := ⟨_, rfl⟩
  have q1 : (s.size : Int).tdiv 2 = (h : Int) := by rw [show (2 : Int) = ((2 : Nat) : Int) from rfl, ← Int.ofNat_tdiv, hh]
  have q2 : (s.size : Int) / 2 = (h : Int) := by omega
  have e1 : bl (s.extract 0 h) = (bl s).take h := by rw [strB_cut', bl_strB, List.drop_zero, Nat.sub_zero]
  have e2 : bl (s.extract h s.size) = (bl s).drop h := by rw [strB_cut', bl_strB, List.take_of_length_le (by rw [List.length_drop, bl_len]; omega)]
  have s1 : (s.extract 0 h).size = h := by rw [ByteArray.size_extract]; omega
  have s2 : (s.extract h s.size).size = s.size - h := by rw [ByteArray.size_extract]; omega
  have HA := Lib.hid (fun W => rvalue_ok (s.extract 0 h) (by rw [e1]; exact all_take hd _) (by omega) (by omega) W)
  have HB := Lib.hid (fun W => rvalue_ok (s.extract h s.size) (by rw [e2]; exact all_drop hd _) (by omega) (by omega) W)
  rw [e1] at HA
  rw [e2] at HB
  unfold halvesB
  rw [bl_len, hh]
  have q3 : (h : Int) ≤ (s.size : Int) := by omega
  have q4 : (0 : Int) ≤ (h : Int) := by omega
  have q5 : IntKind.i64.wrap (h : Int) = (h : Int) := by rw [IntKind.wrap_i64]; omega
  clear hd e1 e2 s1 s2 hh
  go_enter Tryz.func219, Tryz.ntmps219
  go_wp2_with fail
  refine (HM.out _).mono ?_
  rintro e w1 ⟨rfl, rfl⟩
  go_wp2_with fail
  refine (HA.out _).mono ?_
  rintro e w1 ⟨rfl, rfl⟩
  go_wp2_with fail
  refine (HB.out _).mono ?_
  rintro e w1 ⟨rfl, rfl⟩
  go_wp2_with fail
  exact bodyPost_ret (v := .tuple #[.int .i64 _, .int .i64 _, .int .i64 0]) (by simp [results, Tryz.results219, go_sem]) rfl ⟨rfl, rfl⟩
end Go.Proofs.YtajhgejhdalobaaGreatDoor
namespace Go.Proofs.YtajhgejhdalobaaGreatDoor
open Go.RowKit

set_option maxHeartbeats 400000 in
theorem join_hk {h k : Nat} (a b : Nat) (h1 : 1 ≤ h) (h16 : h ≤ 16) (k1 : 1 ≤ k) (k16 : k ≤ 16) (hn : (h + k) / 2 = h) (x y : ByteArray) (zx : x.size = h) (zy : y.size = k)
    (HA : ∀ W, Calls Tryz.prog 294 #[.int .i64 (a : Int), .int .i64 (h : Int)] W fun e w' => e = .returned (.tuple #[.string x, .int .i64 0]) ∧ Fr noBlock W w')
    (HB : ∀ W, Calls Tryz.prog 294 #[.int .i64 (b : Int), .int .i64 (k : Int)] W fun e w' => e = .returned (.tuple #[.string y, .int .i64 0]) ∧ Fr noBlock W w') (w : World) :
    Calls Tryz.prog 223 #[.int .i64 ((h + k : Nat) : Int), .int .i64 (a : Int), .int .i64 (b : Int)] w fun e w' => e = .returned (.string (x ++ y)) ∧ Fr noBlock w w' := by
  obtain ⟨n, hk⟩ : ∃ n, h + k = n := ⟨_, rfl⟩
  rw [hk] at hn ⊢
  have q2 : (n : Int) / 2 = (h : Int) := by omega
  have q3 : (n : Int) - (h : Int) = (k : Int) := by omega
  have q5 : IntKind.i64.wrap (h : Int) = (h : Int) := by rw [IntKind.wrap_i64]; omega
  have q7 : wrap64 (k : Int) = (k : Int) := by unfold wrap64; omega
  have q8 : wrap64 (h : Int) = (h : Int) := by unfold wrap64; omega
  clear hn hk
  go_enter Tryz.func223, Tryz.ntmps223
  go_wp2_with fail
  refine (HA _).mono ?_
  rintro e w1 ⟨rfl, f1⟩
  have HF := Lib.hid f1
  clear f1
  go_wp2_with fail
  refine (HB _).mono ?_
  rintro e w2 ⟨rfl, f2⟩
  have HF2 := Lib.hid (HF.out.trans' f2)
  clear f2 HF
  go_wp2_with fail
  go_ret
  exact ⟨rfl, HF2.out⟩
theorem join_eq (n a b : Nat) : strB (textB a (n / 2)) ++ strB (textB b (n - n / 2)) = strB (joinB n (a, b)) := by
  unfold joinB
  exact strB_add _ _
theorem join_ok (n a b : Nat) (h6 : 6 ≤ n) (h9 : n ≤ 32) (ha : a < 10 ^ (n / 2)) (hb : b < 10 ^ (n - n / 2)) (w : World) : Calls Tryz.prog 223 #[.int .i64 (n : Int), .int .i64 (a : Int), .int .i64 (b : Int)] w fun e w' => e = .returned (.string (strB (joinB n (a, b)))) ∧ Fr noBlock w w' := by
  have r1 : 1 ≤ n / 2 := by clear ha hb; omega
  have r2 : n / 2 ≤ 16 := by clear ha hb; omega
  have r3 : 1 ≤ n - n / 2 := by clear ha hb; omega
  have r4 : n - n / 2 ≤ 16 := by clear ha hb; omega
  have r5 : n / 2 + (n - n / 2) = n := by clear ha hb; omega
  have HA := fun W => rdigits_ok a (n / 2) r1 r2 ha W
  have HB := fun W => rdigits_ok b (n - n / 2) r3 r4 hb W
  have h := join_hk a b r1 r2 r3 r4 (by rw [r5]) _ _ (by rw [strB_size, textB_len]) (by rw [strB_size, textB_len]) HA HB w
  rw [r5, join_eq] at h
  exact h
end Go.Proofs.YtajhgejhdalobaaGreatDoor
namespace Go.Proofs.YtajhgejhdalobaaGreatDoor
open Go.RowKit

theorem beN_step (n size i : Nat) (h : i < size) : (List.replicate (size - i) 0 ++ beN n i).set (size - 1 - i) (UInt8.ofNat (n / 256 ^ i)) = List.replicate (size - (i + 1)) 0 ++ beN n (i + 1) := by
  obtain ⟨k, hk⟩ : ∃ k, size - i = k + 1 := ⟨size - i - 1, by omega⟩
  rw [hk, show size - 1 - i = k by omega, show size - (i + 1) = k by omega, List.replicate_succ', List.append_assoc, List.set_append_right _ _ (by simp), List.length_replicate, Nat.sub_self]
  rfl
set_option maxRecDepth 100000 in
set_option maxHeartbeats 1600000 in
theorem fnum_any (n size : Nat) (hn : n < 9223372036854775808) (h1 : 1 ≤ size) (h8 : size ≤ 8) (w : World) : Calls Tryz.prog 291 #[.int .i64 (n : Int), .int .i64 (size : Int)] w (ShaP (beN n size) w) := by
  obtain ⟨Z, hZ, hmk⟩ := mk_bytes size size (Nat.le_refl _) (by omega)
  have HZ := Lib.hid hZ
  clear hZ
  unfold ShaP
  go_enter Tryz.func291, Tryz.ntmps291
  go_upto_region 2 with fail
  refine wp_at (fun W => OwnB w W (some ⟨w.heap.size, 0, none⟩) size size (List.replicate (size - 0) 0 ++ beN n 0)) (by
    show OwnB w _ _ _ _ (List.replicate size 0 ++ [])
    rw [List.append_nil]
    exact OwnB.room w HZ.out (Nat.le_refl _) (by unfold maxLen; omega)) ?_
  clear hmk
  rintro w1 ho
  have HO := Lib.hid ho
  clear ho
  have hsI : (size : Int) ≤ 8 := by omega
  go_wp2_with fail
  go_loopw [0, 6, 11] (fun s0 s6 s11 W => ∃ i x : Nat, i ≤ size ∧ s11 = .int .i64 i ∧ s0 = .int .i64 x ∧ Hid (x = n / 256 ^ i) ∧ Hid (OwnB w W (some ⟨w.heap.size, 0, none⟩) size size (List.replicate (size - i) 0 ++ beN n i))) (fun _ _ s11 _ => size - (intOf s11).toNat)
  case atStart => exact ⟨0, n, by omega, rfl, rfl, Lib.hid (by simp), HO⟩
  case round =>
    clear HO
    obtain ⟨i, x, hi, rfl, rfl, HX, HO⟩ := hrel
    by_cases hlt : i < size
    · have q1 : (i : Int) < (size : Int) := by omega
      have q0 : (0 : Int) ≤ (i : Int) := by omega
      have q2 : (0 : Int) ≤ (size : Int) - 1 - (i : Int) := by omega
      obtain ⟨j, hj⟩ : ∃ j, size - 1 - i = j := ⟨_, rfl⟩
      have q3 : (size : Int) - 1 - (i : Int) = (j : Int) := by omega
      have q4 : (j : Int) < (size : Int) := by omega
      have q5 : ((UInt8.ofNat x).toNat : Int) = (x : Int) % 256 := by
        rw [UInt8.toNat_ofNat']
        omega
      have hol := HO.out.len
      have hx63 : x < 9223372036854775808 := by rw [HX.out]; exact Nat.lt_of_le_of_lt (Nat.div_le_self _ _) hn
      obtain ⟨x0, x1⟩ := byte_at HO.out.row (i := j) (by rw [hol]; omega)
      have HO2 := Lib.hid (HO.out.put (i := j) (by omega) (UInt8.ofNat x))
      have HO3 := Lib.hid (show (List.replicate (size - i) 0 ++ beN n i).set j (UInt8.ofNat x) = List.replicate (size - (i + 1)) 0 ++ beN n (i + 1) by rw [← hj, HX.out]; exact beN_step n size i hlt)
      rw [HO3.out, q5] at HO2
      generalize (List.replicate (size - i) 0 ++ beN n i)[j] = xx at *
      go_wp2_with fail
      refine ⟨⟨i + 1, x / 256, hlt, by go_num, by go_num, Lib.hid (by rw [HX.out, Nat.pow_succ, Nat.div_div_eq_div_mul]), HO2⟩, ?_⟩
      simp [intOf]; omega
    · have q1 : (size : Int) ≤ (i : Int) := by omega
      obtain rfl : i = size := by omega
      rw [Nat.sub_self] at HO
      go_wp2_with fail
      go_ret
      exact ⟨⟨some ⟨w.heap.size, 0, none⟩, i, i⟩, rfl, (beN_len n i).symm, HO.out.row, HO.out.fr, HO.out.new⟩
end Go.Proofs.YtajhgejhdalobaaGreatDoor
namespace Go.Proofs.YtajhgejhdalobaaGreatDoor
open Go.RowKit

theorem byte_put {w : World} {g n cap i : Nat} {x : List UInt8} (h : RowAt 5 ByteR w (.slice (some ⟨g, 0, none⟩) n cap) x) (hi : i < x.length) (c : UInt8) : RowAt 5 ByteR (w.setCell ⟨g, i, none⟩ (.int .u8 (c.toNat : Int))) (.slice (some ⟨g, 0, none⟩) n cap) (x.set i c) := by
  have := h.set (u := .int .u8 (c.toNat : Int)) hi (j := 0) (by decide) c rfl
  simpa [byteK] using this
def ChS (ka : Nat) (key : Bs) (F : Nat → Prop) (w W : World) (sg sc : Nat) (l : Bs) : Prop := ∃ F', AKeyT ka key W F' ∧ Step F F' w W ∧ RowAt 5 ByteR W (.slice (some ⟨sg, 0, none⟩) 16 sc) l ∧ w.heap.size ≤ sg ∧ ¬ F' sg ∧ ¬ F' w.heap.size ∧ w.heap.size < W.heap.size
namespace ChS
variable {ka : Nat} {key : Bs} {F : Nat → Prop} {w W W' : World} {sg sc : Nat} {l : Bs}
theorem fr (h : ChS ka key F w W sg sc l) (hl : key.length = 32) (f : Fr noBlock W W') : ChS ka key F w W' sg sc l := by
  obtain ⟨F', h1, h2, h3, h4, h5, h6, h7⟩ := h
  exact ⟨F', (AKeyT.ok hl).fr0 h1 f, h2.trans (Step.same f), h3.fr0 f, h4, h5, h6, Nat.lt_of_lt_of_le h7 f.size⟩
theorem put (h : ChS ka key F w W sg sc l) (hl : key.length = 32) {i : Nat} (hi : i < l.length) (c : UInt8) : ChS ka key F w (W.setCell ⟨sg, i, none⟩ (.int .u8 (c.toNat : Int))) sg sc (l.set i c) := by
  obtain ⟨F', h1, h2, h3, h4, h5, h6, h7⟩ := h
  have f : Fr (fun k => k = sg) W (W.setCell ⟨sg, i, none⟩ (.int .u8 (c.toNat : Int))) := fr_set_at (Fr.refl _ W) i _
  exact ⟨F', (AKeyT.ok hl).fr h1 f (fun k hk e => h5 (e ▸ hk)), h2.news f (fun k hk => by rw [hk]; exact h4), byte_put h3 hi c, h4, h5, h6, Nat.lt_of_lt_of_le h7 f.size⟩
theorem rd (h : ChS ka key F w W sg sc l) {po : Option Addr} {p : Bs} (hp : RowRd ByteR w po p) (hF : ∀ a, po = some a → ¬ F a.block) : RowRd ByteR W po p := by
  obtain ⟨F', h1, h2, h3, h4, h5, h6, h7⟩ := h
  exact hp.fr h2.fr (fun b off e => hF _ e)
end ChS
theorem row_room {w : World} {v : Option Addr} {n cap : Nat} {l : Bs} (h : RowAt 5 ByteR w (.slice v n cap) l) : n ≤ cap := by
  obtain ⟨ao, c, e, h1, _⟩ := h.shape
  cases e
  omega
def lenOf : Value → Nat
  | .slice _ n _ => n
  | _ => 0
set_option maxRecDepth 100000 in
set_option maxHeartbeats 3200000 in
theorem chain_any {w : World} {F : Nat → Prop} {ka : Nat} {key p : Bs} (h : AKeyT ka key w F) (hl : key.length = 32) {pg po : Nat} (hp : RowRd ByteR w (some ⟨pg, po, none⟩) p) (hpF : ¬ F pg) {m : Nat} (hm : p.length = 16 * m) (hm9 : m ≤ 100) (pc : Nat) (hpc : p.length ≤ pc) :
    Calls Tryz.prog 292 #[.agg #[.pointer (some ⟨ka, 0, none⟩)], .slice (some ⟨pg, po, none⟩) p.length pc] w fun e w' => ∃ (sg sc : Nat), e = .returned (.slice (some ⟨sg, 0, none⟩) 16 sc) ∧ ChS ka key F w w' sg sc (chainB key p) := by
  obtain ⟨Z, hZ, hmk⟩ := mk_bytes 16 16 (Nat.le_refl _) (by omega)
  have hmk16 : ∀ W : World, (Instr.makeSlice 34 (.int .i64 16) (.int .i64 16)).run Tryz.prog W = .ok (.slice (some ⟨W.heap.size, 0, none⟩) 16 16) (W.alloc (.cells Z 5)) := hmk
  have HC := Lib.hid (show chainB key p = chainN key p m by unfold chainB; rw [hm]; congr 1; omega)
  rw [HC.out]
  have HL := Lib.hid hl
  have HP := Lib.hid (And.intro hp hpF)
  have HK := Lib.hid h
  have HZ := Lib.hid hZ
  have hplt : pg < w.heap.size ∨ p = [] := by
    rcases Nat.eq_zero_or_pos p.length with h0 | h0
    · exact .inr (List.eq_nil_of_length_eq_zero h0)
    · obtain ⟨b, off, e, hb, _⟩ := hp.at' 0 h0
      cases e
      exact .inl hb
  clear hmk hZ h hp hpF hl
  go_enter Tryz.func292, Tryz.ntmps292
  go_upto_region 2 with fail
  refine wp_at (fun W => W.heap[w.heap.size]? = some (.cells #[.pointer (some ⟨ka, 0, none⟩)] 356 (0, 0)) ∧ ChS ka key F w W (w.heap.size + 1) 16 (chainN key p 0)) ?_ ?_
  · have ha := (Fr.refl noBlock w).alloc (.cells #[.pointer (some ⟨ka, 0, none⟩)] 356)
    have hs : (w.alloc (.cells #[.pointer (some ⟨ka, 0, none⟩)] 356)).heap.size = w.heap.size + 1 := by simp
    have hro := (OwnB.room (w.alloc (.cells #[.pointer (some ⟨ka, 0, none⟩)] 356)) HZ.out (Nat.le_refl _) (by unfold maxLen; omega)).row
    rw [hs] at hro
    refine ⟨heap_old _ (heap_new w _), F, (AKeyT.ok HL.out).fr0 HK.out (ha.alloc _), Step.same (ha.alloc _), hro, by omega, fun hk => by have := (AKeyT.ok HL.out).lt HK.out _ hk; omega, fun hk => by have := (AKeyT.ok HL.out).lt HK.out _ hk; omega, by simp; omega⟩
  · obtain ⟨rb, hrb⟩ : ∃ rb, w.heap.size = rb := ⟨_, rfl⟩
    rw [hrb]
    rintro w1 ⟨b1, c1⟩
    have H1 := Lib.hid (And.intro b1 c1)
    clear b1 c1 hmk16 HK HZ
    go_wp2_with fail
    go_loopw [1, 5] (fun s1 s5 W => ∃ k sg sc pc' o : Nat, k ≤ m ∧ s1 = .slice (some ⟨pg, o, none⟩) (p.length - 16 * k) pc' ∧ (k < m → o = po + 16 * k) ∧ p.length - 16 * k ≤ pc' ∧ s5 = .slice (some ⟨sg, 0, none⟩) 16 sc ∧ rb < sg ∧ Hid (W.heap[rb]? = some (.cells #[.pointer (some ⟨ka, 0, none⟩)] 356 (0, 0)) ∧ ChS ka key F w W sg sc (chainN key p k))) (fun s1 _ _ => lenOf s1)
    case atStart => exact ⟨0, rb + 1, 16, pc, po, Nat.zero_le _, by rw [Nat.mul_zero, Nat.sub_zero], fun _ => by rw [Nat.mul_zero, Nat.add_zero], by omega, rfl, by omega, H1⟩
    case round =>
      clear H1
      obtain ⟨k, sg, sc, pc', o, hk, rfl, ho, hpc2, rfl, hrs, HI⟩ := hrel
      by_cases hkm : k < m
      · obtain rfl := ho hkm
        clear ho
        obtain ⟨n, hn⟩ : ∃ n, p.length - 16 * k = n + 16 := ⟨p.length - 16 * k - 16, by omega⟩
        rw [hn] at hpc2
        have q1 : (0 : Int) < (n : Int) + 16 := by omega
        have q2 : (16 : Int) ≤ (n : Int) + 16 := by omega
        have hlc : (chainN key p k).length = 16 := chain_len HL.out k (by omega)
        obtain ⟨q, hq⟩ : ∃ q, (p.drop (16 * k)).take 16 = q := ⟨_, rfl⟩
        have hql : q.length = 16 := by rw [← hq, List.length_take, List.length_drop]; omega
        have hqi : ∀ i (hi : i < 16), p[16 * k + i]'(by omega) = q[i]'(by omega) := fun i hi => by
          subst hq
          rw [List.getElem_take, List.getElem_drop]
        have HN := Lib.hid (show chainN key p (k + 1) = aesE key (layF (chainN key p k) q) by
          show aesE key (xorL _ ((p.drop (16 * k)).take 16)) = _
          rw [hq]
          rfl)
        obtain ⟨l, hll⟩ : ∃ l, chainN key p k = l := ⟨_, rfl⟩
        rw [hll] at HI hlc HN
        have hlq : l.length = q.length := by omega
        rw [hn]
        have HI0 : Hid (wr.heap[rb]? = some (.cells #[.pointer (some ⟨ka, 0, none⟩)] 356 (0, 0)) ∧ ChS ka key F w wr sg sc (layL l q 0)) := Lib.hid (by rw [layL_zero]; exact HI.out)
        have HQ := Lib.hid (And.intro hqi hq)
        clear HI hq hqi hll
        obtain ⟨wo, hwo⟩ : ∃ wo : World, wo = wr := ⟨_, rfl⟩
        subst hwo
        go_wp2_with fail
        go_loopw [6, 15] (fun s6 s15 W => ∃ i : Nat, i ≤ 16 ∧ s15 = .int .i64 i ∧ Hid (W.heap[rb]? = some (.cells #[.pointer (some ⟨ka, 0, none⟩)] 356 (0, 0)) ∧ ChS ka key F w W sg sc (layL l q i))) (fun _ s15 _ => 16 - (intOf s15).toNat)
        case atStart => exact ⟨0, by omega, rfl, HI0⟩
        case round =>
          clear HI0
          obtain ⟨i, hi, rfl, HJ⟩ := hrel
          by_cases hlt : i < 16
          · have z1 : (i : Int) < 16 := by omega
            have z0 : (0 : Int) ≤ (i : Int) := by omega
            have z2 : (i : Int) < ((n + 16 : Nat) : Int) := by omega
            have z3 : (i : Int) < (n : Int) + 16 := by omega
            have hil : i < l.length := by omega
            have hiq : i < q.length := by omega
            obtain ⟨F', j1, j2, j3, j4, j5, j6, j7⟩ := HJ.out.2
            obtain ⟨x0, x1⟩ := byte_at j3 (i := i) (by rw [layL_len hlq (by omega)]; omega)
            have hpr := HP.out.1.fr j2.fr (fun b off e => by cases e; exact HP.out.2)
            have y0 := byte_rd hpr (i := 16 * k + i) (by omega)
            rw [HQ.out.1 i hlt] at y0
            have hx : (layL l q i)[i]'(by rw [layL_len hlq (by omega)]; omega) = l[i] := by
              have := layL_get hlq hil
              rw [List.getElem?_eq_getElem (by rw [layL_len hlq (by omega)]; omega)] at this
              exact Option.some.inj this
            rw [hx] at x0
            have HB2 := Lib.hid (show (wr.drew.setCell ⟨sg, i, none⟩ (.int .u8 ((l[i] ^^^ q[i]).toNat : Int))).heap[rb]? = some (.cells #[.pointer (some ⟨ka, 0, none⟩)] 356 (0, 0)) ∧ ChS ka key F w (wr.drew.setCell ⟨sg, i, none⟩ (.int .u8 ((l[i] ^^^ q[i]).toNat : Int))) sg sc (layL l q (i + 1)) from ⟨heap_set_ne ((Fr.refl noBlock wr).drew.obj HJ.out.1 (fun z => z)) (by omega), by
              have := (HJ.out.2.fr HL.out (Fr.refl noBlock wr).drew).put HL.out (i := i) (by rw [layL_len hlq (by omega)]; omega) (l[i] ^^^ q[i])
              rw [layL_set hlq hil] at this
              exact this⟩)
            rw [show po + (16 * k + i) = po + 16 * k + i by omega] at y0
            generalize l[i] = x at *
            generalize q[i] = y at *
            have HV := Lib.hid (u8x x y)
            rw [← HV.out] at HB2
            clear j1 j2 j3 j4 j5 j6 j7 hpr hx
            go_wp2_with fail
            go_still_tail 10, (by kernel_rfl)
            change wpList _ _ _ _ _ wr.drew
            go_wp2_with fail
            go_roundw
            case rel => exact ⟨i + 1, hlt, by go_num, HB2⟩
            case measure => simp [intOf]; omega
          · have z1 : (16 : Int) ≤ (i : Int) := by omega
            obtain rfl : i = 16 := by omega
            rw [show layL l q 16 = layF l q by rw [show (16 : Nat) = l.length by omega, layL_all hlq]] at HJ
            obtain ⟨F', j1, j2, j3, j4, j5, j6, j7⟩ := HJ.out.2
            have k0 := cell_of HJ.out.1 0
            have hfl : (layF l q).length = 16 := by rw [layF_len hlq]; exact hlc
            have HE := Lib.hid (encrypt_any j1 HL.out (RowAt.rd j3) hfl sc (row_room j3) (fun a e => by cases e; exact j5))
            have HJ2 := Lib.hid (And.intro j2 (And.intro HJ.out.1 (And.intro j6 j7)))
            clear j1 j2 j3 j4 j5 j6 j7
            go_wp2_with fail
            refine HE.out.mono ?_
            rintro e w2 ⟨⟨sa, sn, sc2⟩, wm, F'', rfl, e16, j1, j2, j3, j4, j5⟩
            unfold SV.val at j1 j5 ⊢
            dsimp only at e16 j1 j5 ⊢
            subst e16
            have hal : (aesE key (layF l q)).length = 16 := aesE_len HL.out hfl
            obtain ⟨sg2, hsg, -⟩ := j1.elem (i := 0) (by omega)
            subst hsg
            obtain ⟨i1, i2, i3, i4⟩ := HJ2.out
            have H3 := Lib.hid (show w2.heap[rb]? = some (.cells #[.pointer (some ⟨ka, 0, none⟩)] 356 (0, 0)) ∧ ChS ka key F w w2 sg2 sc2 (chainN key p (k + 1)) ∧ rb < sg2 from by
              have hsz := j5 sg2 rfl
              have hwm := j3.fr.size
              rw [HN.out]
              have i3' : ¬ F' rb := by rw [← hrb]; exact i3
              refine ⟨j4.obj (j3.fr.obj i2 i3') (fun z => z), ⟨F'', (AKeyT.ok HL.out).fr0 (.inr j2) j4, (i1.trans j3).trans (Step.same j4), j1, by omega, fun hk => ?_, fun hk => ?_, Nat.lt_of_lt_of_le i4 (Nat.le_trans j3.fr.size j4.size)⟩, by omega⟩
              · have := (AKeyT.ok HL.out).lt (.inr j2) _ hk
                omega
              · rcases j3.foot _ hk with h | h
                · exact i3 h
                · omega)
            clear j1 j2 j3 j4 j5 i1 i2 i3 i4 HJ2 HE HJ
            clear hql hlq hlc hfl hal HQ HN k0
            go_wp2_with fail
            have hlen : p.length - 16 * (k + 1) = n := by omega
            refine ⟨⟨k + 1, sg2, sc2, pc' - 16, if pc' = 16 then po + 16 * k else po + 16 * k + 16, hkm, ?_, fun h => ?_, by omega, rfl, H3.out.2.2, Lib.hid ⟨H3.out.1, H3.out.2.1⟩⟩, ?_⟩
            · rw [hlen]
              by_cases h16 : pc' = 16
              · rw [if_pos h16, if_pos h16]
              · rw [if_neg h16, if_neg h16]
            · rw [if_neg (by omega)]
              omega
            · show n < n + 16
              omega
      · obtain rfl : k = m := by omega
        have q1 : p.length - 16 * k = 0 := by omega
        rw [q1]
        go_wp2_with fail
        go_ret
        exact ⟨sg, sc, rfl, HI.out.2⟩
end Go.Proofs.YtajhgejhdalobaaGreatDoor
