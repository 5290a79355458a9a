/-
  THE WALK of the law's mixed: is a sector a beginning of new bytes, and what was safe behind that?
-/
import Derived.Test.YtmcckppmciflmaaDkSmall
import Derived.Test.YtmcckppmciflmaaDkLastsP
import Derived.Deep.QuietTactic
import Derived.BigQuiet
namespace Go.Proofs.Ytmcckppmciflmaa
open Go.RowKit

def mixAt (s f g : Bs) (k : Nat) : Bool := decide (s.take k = f.take k) && decide (s.drop k = g.drop k)
def mixB (s f g : Bs) : Bool := (List.range 65).any (mixAt s f g)
theorem mix_of {s f g : Bs} {k : Nat} (hk : k ≤ 64) (hf : f.length = 64) (h : s = f.take k ++ g.drop k) : mixB s f g = true := by
  unfold mixB
  rw [List.any_eq_true]
  refine ⟨k, by rw [List.mem_range]; omega, ?_⟩
  have hl : (f.take k).length = k := by simp; omega
  unfold mixAt
  rw [h, Bool.and_eq_true, decide_eq_true_eq, decide_eq_true_eq]
  constructor
  · rw [List.take_append_of_le_length (by omega), List.take_take, Nat.min_self]
  · rw [List.drop_append, List.drop_of_length_le (by omega), hl, Nat.sub_self, List.drop_zero, List.nil_append]
theorem str_take (l : Bs) (k : Nat) : ((strB l).extract 0 k).toList = l.take k := by
  rw [ByteArray.toList_eq]
  simp [strB, ByteArray.data_extract]
theorem str_drop (l : Bs) (k : Nat) : ((strB l).extract k l.length).toList = l.drop k := by
  rw [ByteArray.toList_eq]
  simp [strB, ByteArray.data_extract]
  exact List.take_of_length_le (by simp)

set_option maxRecDepth 100000 in
set_option maxHeartbeats 800000 in
theorem mixed_any (s f g : Bs) (hs : s.length = 64) (hf : f.length = 64) (hg : g.length = 64) (w : World) : Calls Try.prog 21 #[.string (strB s), .string (strB f), .string (strB g)] w fun e w' => e = .returned (.bool (mixB s f g)) ∧ Fr noBlock w w' := by
  have z1 : (strB s).size = 64 := (strB_size s).trans hs
  have z2 : (strB f).size = 64 := (strB_size f).trans hf
  have z3 : (strB g).size = 64 := (strB_size g).trans hg
  have Hs := Lib.hid hs
  have Hf := Lib.hid hf
  have Hg := Lib.hid hg
  clear hs hf hg
  go_enter Try.func21, Try.ntmps21
  go_wp2_with fail
  go_loopw [7] (fun s7 wr => ∃ i : Nat, i ≤ 65 ∧ s7 = .int .i64 i ∧ Hid (∀ j, j < i → mixAt s f g j = false) ∧ Fr noBlock w wr) (fun s7 _ => 65 - (intOf s7).toNat)
  case atStart => exact ⟨0, Nat.zero_le _, rfl, Lib.hid (fun j h => by omega), Fr.refl _ _⟩
  case round =>
    obtain ⟨i, hi, rfl, HN, hfr⟩ := hrel
    by_cases hlt : i ≤ 64
    · have q1 : (i : Int) ≤ 64 := by omega
      have q0 : (0 : Int) ≤ (i : Int) := by omega
      have Hq := Lib.hid (fun k => hfr.drewN k)
      have Ht := Lib.hid (show mixAt s f g i = (decide (((strB s).extract 0 i).toList = ((strB f).extract 0 i).toList) && decide (((strB s).extract i 64).toList = ((strB g).extract i 64).toList)) by
        unfold mixAt
        have d1 := str_drop s i
        have d2 := str_drop g i
        rw [Hs.out] at d1
        rw [Hg.out] at d2
        rw [str_take, str_take, d1, d2])
      obtain ⟨b1, h1⟩ : ∃ b, (((strB s).extract 0 i).toList == ((strB f).extract 0 i).toList) = b := ⟨_, rfl⟩
      obtain ⟨b2, h2⟩ : ∃ b, (((strB s).extract i 64).toList == ((strB g).extract i 64).toList) = b := ⟨_, rfl⟩
      have Hm := Lib.hid (show mixAt s f g i = (b1 && b2) by rw [Ht.out, ← h1, ← h2, Bool.eq_iff_iff]; simp)
      have hi1 : i + 1 ≤ 65 := by omega
      clear hlt hfr Ht
      have hcs : b1 = false ∨ (b1 = true ∧ b2 = false) ∨ (b1 = true ∧ b2 = true) := by cases b1 <;> cases b2 <;> simp
      rcases hcs with rfl | ⟨rfl, rfl⟩ | ⟨rfl, rfl⟩
      · go_wp2_with fail
        go_quiet (fail)
        go_wp2_with fail
        go_roundw
        case rel => exact ⟨i + 1, hi1, by go_num, Lib.hid (fun j hj => by
          by_cases e : j = i
          · rw [e, Hm.out]; rfl
          · exact HN.out j (by omega)), Hq.out _⟩
        case measure => simp [intOf]; omega
      · go_wp2_with fail
        go_quiet (fail)
        go_wp2_with fail
        go_roundw
        case rel => exact ⟨i + 1, hi1, by go_num, Lib.hid (fun j hj => by
          by_cases e : j = i
          · rw [e, Hm.out]; rfl
          · exact HN.out j (by omega)), Hq.out _⟩
        case measure => simp [intOf]; omega
      · have HR := Lib.hid (show mixB s f g = true by
          unfold mixB
          rw [List.any_eq_true]
          exact ⟨i, by rw [List.mem_range]; omega, by rw [Hm.out]; rfl⟩)
        go_wp2_with fail
        go_quiet (fail)
        go_wp2_with fail
        go_ret
        exact ⟨ret_bool HR.out.symm, Hq.out _⟩
    · have q1 : (64 : Int) < (i : Int) := by omega
      have HR := Lib.hid (show mixB s f g = false by
        unfold mixB
        rw [List.any_eq_false]
        intro j hj
        rw [List.mem_range] at hj
        simp [HN.out j (by omega)])
      clear hlt
      go_wp2_with fail
      go_ret
      exact ⟨ret_bool HR.out.symm, hfr⟩
end Go.Proofs.Ytmcckppmciflmaa
