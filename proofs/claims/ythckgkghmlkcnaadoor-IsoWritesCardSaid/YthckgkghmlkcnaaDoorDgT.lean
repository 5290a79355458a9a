/-
  THE WALK of digits.Text where the number fits.
-/
import Derived.Lib.Hide
import Derived.Deep.LoopGhost
import Derived.Deep.CutBlock
import Derived.IntWalk
import Derived.Test.YthckgkghmlkcnaaDoorDgP
import Derived.Test.YthckgkghmlkcnaaDoorBytes
namespace Go.Proofs.YthckgkghmlkcnaaDoor
open Go.RowKit

/-- the array behind i digits -/
def arrL (n k i : Nat) : Bs := List.replicate (k - i) 0 ++ textB n i ++ List.replicate (19 - k) 0
theorem arrL_len {n k i : Nat} (hi : i ≤ k) (hk : k ≤ 19) : (arrL n k i).length = 19 := by unfold arrL; simp [textB_len]; omega
theorem arrL_next {n k i : Nat} (hi : i < k) : arrL n k (i + 1) = (arrL n k i).set (k - 1 - i) (UInt8.ofNat (48 + n / 10 ^ i % 10)) := by
  unfold arrL
  rw [textB, show k - i = (k - (i + 1)) + 1 by omega, List.replicate_succ', List.append_assoc, List.append_assoc, List.append_assoc, List.set_append_right _ _ (by simp; omega)]
  simp only [List.length_replicate]
  rw [show k - 1 - i - (k - (i + 1)) = 0 by omega]
  rfl
theorem arrL_all (n k : Nat) : (arrL n k k).take k = textB n k := by
  unfold arrL
  rw [Nat.sub_self, List.replicate_zero, List.nil_append, List.take_left' (textB_len n k)]
theorem arrL_zero (n k : Nat) (hk : k ≤ 19) : arrL n k 0 = List.replicate 19 0 := by
  unfold arrL
  rw [textB, List.append_nil, List.replicate_append_replicate]
  congr 1
  omega
theorem arr_row {w : World} {b : Nat} {cur : Array Value} {t : TypeId} {f : Nat × Nat} {L : Bs} (h : w.heap[b]? = some (.cells cur t f)) (hc : cur.toList = ByteR.flat L) (hl : L.length ≤ maxLen) (k : Nat) : RowRd ByteR w (some ⟨b, 0, none⟩) (L.take k) := RowRd.takeN (RowRd.of_flat h hc hl) k
/-- the array's block -/
def ArrAt (w : World) (b : Nat) (L : Bs) : Prop := ∃ cur : Array Value, w.heap[b]? = some (.cells cur 95 (0, 0)) ∧ cur.toList = ByteR.flat L
theorem ArrAt.start (w : World) : ArrAt (w.alloc (.cells #[.int .u8 0, .int .u8 0, .int .u8 0, .int .u8 0, .int .u8 0, .int .u8 0, .int .u8 0, .int .u8 0, .int .u8 0, .int .u8 0, .int .u8 0, .int .u8 0, .int .u8 0, .int .u8 0, .int .u8 0, .int .u8 0, .int .u8 0, .int .u8 0, .int .u8 0] 95)) w.heap.size (List.replicate 19 0) := ⟨_, heap_new w _, rfl⟩
set_option maxRecDepth 100000 in
set_option maxHeartbeats 1600000 in
theorem dtext_any (n k : Nat) (w : World) (hk : 1 ≤ k ∧ k ≤ 19) (hn : n < 10 ^ k) (hn63 : n ≤ 9223372036854775807) : Calls Tryd.prog 57 #[.int .i64 n, .int .i64 k] w fun e w' => e = .returned (.tuple #[.string (strB (textB n k)), .int .i64 0]) ∧ Fr noBlock w w' := by
  obtain ⟨hk1, hk2⟩ := hk
  have q1 : (1 : Int) ≤ (k : Int) := by omega
  have q2 : (k : Int) ≤ 19 := by omega
  have q3 : (0 : Int) ≤ (n : Int) := by omega
  have q4 : (n : Int) ≤ 9223372036854775807 := by omega
  have d1 : decide ((n : Int) < 0) = false := by simp
  have d2 : decide ((k : Int) < 1) = false := by simp; omega
  have d3 : decide (19 < (k : Int)) = false := by simp; omega
  have Hn := Lib.hid hn
  have H0 := Lib.hid (And.intro ((Fr.refl noBlock w).alloc (.cells #[.int .u8 0, .int .u8 0, .int .u8 0, .int .u8 0, .int .u8 0, .int .u8 0, .int .u8 0, .int .u8 0, .int .u8 0, .int .u8 0, .int .u8 0, .int .u8 0, .int .u8 0, .int .u8 0, .int .u8 0, .int .u8 0, .int .u8 0, .int .u8 0, .int .u8 0] 95)) (by rw [arrL_zero n k hk2]; exact ArrAt.start w : ArrAt (w.alloc (.cells #[.int .u8 0, .int .u8 0, .int .u8 0, .int .u8 0, .int .u8 0, .int .u8 0, .int .u8 0, .int .u8 0, .int .u8 0, .int .u8 0, .int .u8 0, .int .u8 0, .int .u8 0, .int .u8 0, .int .u8 0, .int .u8 0, .int .u8 0, .int .u8 0, .int .u8 0] 95)) w.heap.size (arrL n k 0)))
  clear hn
  go_enter Tryd.func57, Tryd.ntmps57
  go_wp2_with fail
  go_loopw [0, 19] (fun s0 s19 wr => ∃ i : Nat, i ≤ k ∧ s19 = .int .i64 i ∧ s0 = .int .i64 ((n / 10 ^ i : Nat) : Int) ∧ Hid (Fr noBlock w wr ∧ ArrAt wr w.heap.size (arrL n k i))) (fun _ s19 _ => k - (intOf s19).toNat)
  case atStart => exact ⟨0, Nat.zero_le _, rfl, by simp, H0⟩
  case round =>
    obtain ⟨i, hi, rfl, rfl, HI⟩ := hrel
    clear H0
    by_cases hlt : i < k
    · have h1 : (i : Int) < (k : Int) := by omega
      have hi1 : i + 1 ≤ k := hlt
      obtain ⟨hfr, cur, hb, hcur⟩ := HI.out
      have hnx := arrL_next (n := n) hlt
      have hq1 : n / 10 ^ (i + 1) = n / 10 ^ i / 10 := by rw [Nat.pow_succ, Nat.div_div_eq_div_mul]
      have hle : n / 10 ^ i ≤ n := Nat.div_le_self _ _
      have hlen : cur.size = 19 := by
        have := congrArg List.length hcur
        rw [ByteR.flat_len, byteK, Nat.mul_one, arrL_len hi hk2] at this
        simpa using this
      obtain ⟨r, hr⟩ : ∃ r : Nat, (k : Int) - 1 - (i : Int) = (r : Int) := ⟨k - 1 - i, by omega⟩
      have hrn : k - 1 - i = r := by omega
      rw [hrn] at hnx
      have hr19 : r < 19 := by omega
      have hrI : (r : Int) < 19 := by omega
      obtain ⟨c0, y0⟩ : ∃ c0, wr.cell? ⟨w.heap.size, r, none⟩ = some c0 := ⟨cur[r]'(by omega), by rw [cell_of hb]; exact Array.getElem?_eq_getElem (by omega)⟩
      have z0 := free_of hb r
      generalize n / 10 ^ i = q at *
      have hv : (48 : Int) + (q : Int) % 10 = ((UInt8.ofNat (48 + q % 10)).toNat : Int) := by rw [UInt8.toNat_ofNat']; omega
      have HB := Lib.hid (show ArrAt (wr.setCell ⟨w.heap.size, r, none⟩ (.int .u8 ((UInt8.ofNat (48 + q % 10)).toNat : Int))) w.heap.size (arrL n k (i + 1)) by
        refine ⟨_, heap_set_eq hb, ?_⟩
        rw [Array.toList_setIfInBounds, hcur, hnx, flat_bytes, flat_bytes, List.map_set])
      have HF := Lib.hid hfr
      rw [← hv] at HB
      have HQ := Lib.hid hq1
      clear hfr hb hcur hnx hlen hrn HI hq1 hv hlt
      go_wp2_with fail
      go_roundw
      case rel => exact ⟨i + 1, hi1, by go_num, by rw [HQ.out]; rfl, Lib.hid ⟨HF.out.setCell (p := ⟨w.heap.size, r, none⟩) (.inr (Nat.le_refl _)) _, HB.out⟩⟩
      case measure => simp [intOf]; omega
    · have h1 : (k : Int) ≤ (i : Int) := by omega
      have e : i = k := by omega
      subst e
      have h0 : n / 10 ^ i = 0 := Nat.div_eq_of_lt Hn.out
      rw [h0]
      obtain ⟨hfr, cur, hb, hcur⟩ := HI.out
      have hr := arr_row hb hcur (by rw [arrL_len hi hk2]; decide) i
      rw [arrL_all] at hr
      have hcv := conv_rd hr 19
      rw [textB_len] at hcv
      have HF := Lib.hid hfr
      clear hfr hb hcur hr HI hlt h0
      go_wp2_with fail
      go_ret2
      exact ⟨rfl, HF.out⟩
end Go.Proofs.YthckgkghmlkcnaaDoor
