/-
  DIGITS (plain): packed, unpacked, their numbers.
-/
import Derived.Test.YtajhgejhdalobaaGreatDoorBase
namespace Go.Proofs.YtajhgejhdalobaaGreatDoor

abbrev bl (s : ByteArray) : Bs := s.data.toList
def isDig (c : UInt8) : Bool := decide (48 ≤ c.toNat) && decide (c.toNat ≤ 57)
def digB (s : ByteArray) : Bool := s.data.toList.all isDig
def lookE (s : ByteArray) : Int := if digB s = false then 4 else if 999 < s.size then 2 else 0
theorem bl_len (s : ByteArray) : (bl s).length = s.size := by simp [bl]
theorem dig_no {s : ByteArray} {k : Nat} (hk : k < s.size) (h : isDig s[k] = false) : digB s = false := by
  unfold digB
  rw [List.all_eq_false]
  exact ⟨s[k], by rw [ByteArray.getElem_eq_getElem_data]; simp, by simpa using h⟩
theorem dig_step {s : ByteArray} {k : Nat} (hk : k < s.size) (h : isDig s[k] = true) (hn : ∀ c ∈ s.data.toList.take k, isDig c = true) : ∀ c ∈ s.data.toList.take (k + 1), isDig c = true := by
  intro c hc
  rw [List.take_succ_eq_append_getElem (by simpa using hk), List.mem_append] at hc
  rcases hc with hc | hc
  · exact hn c hc
  · simp at hc
    subst hc
    rw [ByteArray.getElem_eq_getElem_data] at h
    exact h
theorem dig_yes {s : ByteArray} (hn : ∀ c ∈ s.data.toList.take s.size, isDig c = true) : digB s = true := by
  unfold digB
  rw [List.all_eq_true]
  rwa [List.take_of_length_le (by simp)] at hn

theorem u8_eta (c : UInt8) : UInt8.ofNat c.toNat = c := by simp
theorem dig_nat {c : UInt8} (h : isDig c = true) : ∃ x, x < 10 ∧ c = UInt8.ofNat (48 + x) ∧ c.toNat = 48 + x := by
  unfold isDig at h
  simp at h
  refine ⟨c.toNat - 48, by omega, ?_, by omega⟩
  rw [show 48 + (c.toNat - 48) = c.toNat by omega, u8_eta]
def numB (l : Bs) : Nat := l.foldl (fun n c => 10 * n + (c.toNat - 48)) 0
def textB (n : Nat) : Nat → Bs
  | 0 => []
  | k + 1 => UInt8.ofNat (48 + n / 10 ^ k % 10) :: textB n k
theorem textB_len (n k : Nat) : (textB n k).length = k := by
  induction k with
  | zero => rfl
  | succ k ih => simp [textB, ih]
end Go.Proofs.YtajhgejhdalobaaGreatDoor
