/-
  CHECK SUMS (plain): the register's steps, bit by bit and by fours; the sum of bytes.
-/
import Derived.Test.YthabllnhlhkejaaGreatDoorBase
namespace Go.Proofs.YthabllnhlhkejaaGreatDoor

def crcPoly : BitVec 32 := 0xEDB88320#32
/-- one bit is shifted out -/
def bst (r : BitVec 32) : BitVec 32 := (r >>> 1) ^^^ (if r.getLsbD 0 then crcPoly else 0#32)
def bst4 (r : BitVec 32) : BitVec 32 := bst (bst (bst (bst r)))
def crcByte (r : BitVec 32) (c : UInt8) : BitVec 32 := bst4 (bst4 (r ^^^ BitVec.ofNat 32 c.toNat))
def crcL (r : BitVec 32) (l : List UInt8) : BitVec 32 := l.foldl crcByte r
def crcS (l : List UInt8) : BitVec 32 := ~~~ crcL (BitVec.allOnes 32) l
def crc (l : List UInt8) : Int := ((crcS l).toNat : Int)
theorem crcL_nil (r : BitVec 32) : crcL r [] = r := rfl
theorem crcL_snoc (r : BitVec 32) (l : List UInt8) (c : UInt8) : crcL r (l ++ [c]) = crcByte (crcL r l) c := by simp [crcL]
theorem crcL_append (r : BitVec 32) (l m : List UInt8) : crcL r (l ++ m) = crcL (crcL r l) m := by simp [crcL]
theorem crc_range (l : List UInt8) : 0 ≤ crc l ∧ crc l ≤ 4294967295 := by
  have := (crcS l).isLt
  unfold crc
  omega

theorem bst_xor (a b : BitVec 32) : bst (a ^^^ b) = bst a ^^^ bst b := by
  unfold bst
  rw [BitVec.getLsbD_xor, BitVec.ushiftRight_xor_distrib]
  cases a.getLsbD 0 <;> cases b.getLsbD 0
  · simp
  · simp [BitVec.xor_assoc]
  · simp only [Bool.xor_comm, Bool.false_bne, if_true]
    simp only [Bool.false_eq_true, if_false, BitVec.xor_zero]
    rw [BitVec.xor_assoc, BitVec.xor_assoc, BitVec.xor_comm (b >>> 1)]
  · simp only [Bool.bne_true, Bool.not_true, Bool.false_eq_true, if_false, if_true]
    rw [show (a >>> 1 ^^^ crcPoly ^^^ (b >>> 1 ^^^ crcPoly)) = (a >>> 1 ^^^ b >>> 1) ^^^ (crcPoly ^^^ crcPoly) by
      rw [BitVec.xor_assoc, BitVec.xor_assoc]; congr 1; rw [← BitVec.xor_assoc, BitVec.xor_comm crcPoly, BitVec.xor_assoc]]
    simp
theorem bst4_xor (a b : BitVec 32) : bst4 (a ^^^ b) = bst4 a ^^^ bst4 b := by unfold bst4; rw [bst_xor, bst_xor, bst_xor, bst_xor]
theorem bst_even {a : BitVec 32} (h : a.getLsbD 0 = false) : bst a = a >>> 1 := by unfold bst; rw [h]; simp
theorem bst4_high (r : BitVec 32) : bst4 (r &&& 0xFFFFFFF0#32) = r >>> 4 := by
  have g : ∀ k, k < 4 → (r &&& 0xFFFFFFF0#32).getLsbD k = false := by
    intro k hk
    rw [BitVec.getLsbD_and]
    have : (0xFFFFFFF0#32).getLsbD k = false := by
      rcases (show k = 0 ∨ k = 1 ∨ k = 2 ∨ k = 3 by omega) with rfl | rfl | rfl | rfl <;> rfl
    rw [this, Bool.and_false]
  unfold bst4
  rw [bst_even (g 0 (by omega)), bst_even (a := (r &&& 0xFFFFFFF0#32) >>> 1) (by rw [BitVec.getLsbD_ushiftRight]; exact g 1 (by omega)), bst_even (a := (r &&& 0xFFFFFFF0#32) >>> 1 >>> 1) (by rw [BitVec.getLsbD_ushiftRight, BitVec.getLsbD_ushiftRight]; exact g 2 (by omega)),
    bst_even (a := (r &&& 0xFFFFFFF0#32) >>> 1 >>> 1 >>> 1) (by rw [BitVec.getLsbD_ushiftRight, BitVec.getLsbD_ushiftRight, BitVec.getLsbD_ushiftRight]; exact g 3 (by omega))]
  apply BitVec.eq_of_getLsbD_eq
  intro i hi
  simp only [BitVec.getLsbD_ushiftRight, BitVec.getLsbD_and]
  have e : 1 + (1 + (1 + (1 + i))) = 4 + i := by omega
  rw [e]
  by_cases h : 4 + i < 32
  · have : (0xFFFFFFF0#32).getLsbD (4 + i) = true := by
      have : ∀ j : Fin 28, (0xFFFFFFF0#32).getLsbD (4 + j.val) = true := by decide
      exact this ⟨i, by omega⟩
    rw [this, Bool.and_true]
  · rw [BitVec.getLsbD_of_ge _ _ (by omega), Bool.false_and]
theorem split_low (r : BitVec 32) : r = (r &&& 0xFFFFFFF0#32) ^^^ (r &&& 15#32) := by
  apply BitVec.eq_of_getLsbD_eq
  intro i hi
  rw [BitVec.getLsbD_xor, BitVec.getLsbD_and, BitVec.getLsbD_and]
  have : ∀ j : Fin 32, (15#32).getLsbD j.val = !(0xFFFFFFF0#32).getLsbD j.val := by decide
  rw [this ⟨i, hi⟩]
  cases r.getLsbD i <;> cases (0xFFFFFFF0#32).getLsbD i <;> rfl
/-- four bits at once, by a table -/
theorem bst4_nib (r : BitVec 32) : bst4 r = (r >>> 4) ^^^ bst4 (r &&& 15#32) := by
  conv => lhs; rw [split_low r]
  rw [bst4_xor, bst4_high]
end Go.Proofs.YthabllnhlhkejaaGreatDoor
