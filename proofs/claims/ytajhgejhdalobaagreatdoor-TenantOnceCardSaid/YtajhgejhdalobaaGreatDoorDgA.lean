/-
  THE WALK of digits.look.
-/
import Derived.Deep.QuietTactic
import Derived.BigQuiet
import Derived.BigRegion
import Derived.Deep.LoopGhost
import Derived.Laws.MakeOwn
import Derived.Lib.Hide
import Derived.Deep.RegionLaw
import Derived.Test.YtajhgejhdalobaaGreatDoorDgP
namespace Go.Proofs.YtajhgejhdalobaaGreatDoor
open Go.RowKit

def PackPost (E : Int) (w : World) (e : Ending) (w' : World) : Prop := ∃ v, e = .returned (.tuple #[v, .int .i64 E]) ∧ Fr noBlock w w'
theorem ret_bool {a b : Bool} (h : a = b) : Ending.returned (.bool a) = .returned (.bool b) := by rw [h]
theorem ret_int {a b : Int} (h : a = b) : Ending.returned (.int .i64 a) = .returned (.int .i64 b) := by rw [h]
theorem run_at (s : ByteArray) (k : Nat) (hk : k < s.size) (w : World) : (Instr.index 9 (.string s) (.int .i64 (k : Int))).run Tryz.prog w = .ok (.int .u8 (s[k].toNat : Int)) w := by
  rw [run_index_string _ 9 s .i64 (k : Int) Tryz.underlying9]
  have h1 : (0 : Int) ≤ (k : Int) := by omega
  have h2 : (k : Int) < (s.size : Int) := by omega
  simp [h1, h2]

set_option maxHeartbeats 400000 in
theorem look_any (s : ByteArray) (w : World) (hs : s.size ≤ maxLen) : Calls Tryz.prog 138 #[.string s] w fun e w' => e = .returned (.int .i64 (lookE s)) ∧ w = w' := by
  unfold maxLen at hs
  go_enter Tryz.func138, Tryz.ntmps138
  go_wp2_with fail
  go_loop [6] (fun s6 => ∃ k : Nat, k ≤ s.size ∧ s6 = .int .i64 k ∧ Hid (∀ c ∈ s.data.toList.take k, isDig c = true)) (fun s6 => s.size - (intOf s6).toNat)
  case atStart => exact ⟨0, Nat.zero_le _, rfl, Lib.hid (by simp)⟩
  case round =>
    obtain ⟨k, hk, rfl, hn⟩ := hrel
    by_cases hlt : k < s.size
    · have h1 : (k : Int) < (s.size : Int) := by omega
      have hc256 : (s[k].toNat : Int) < 256 := by have := s[k].toNat_lt; omega
      have hst := Lib.hid (fun h => dig_step hlt h hn.out)
      have hno := Lib.hid (fun h => dig_no hlt h)
      have hat := run_at s k hlt
      by_cases hd : isDig s[k] = true
      · have Hn := Lib.hid (hst.out hd)
        have hd' := hd
        simp only [isDig, Bool.and_eq_true, decide_eq_true_eq] at hd'
        obtain ⟨d1, d2⟩ := hd'
        have e1 : (48 : Int) ≤ (s[k].toNat : Int) := by omega
        have e2 : (s[k].toNat : Int) ≤ 57 := by omega
        clear hd d1 d2 hst hno
        generalize (s[k].toNat : Int) = c at *
        go_wp2_with fail
        go_round
        case rel => exact ⟨k + 1, by omega, by go_num, Hn⟩
        case measure => simp [intOf]; omega
      · have Hno := Lib.hid (hno.out (by simpa using hd))
        have hd' : (s[k].toNat : Int) < 48 ∨ 57 < (s[k].toNat : Int) := by
          simp only [isDig, Bool.and_eq_true, decide_eq_true_eq, not_and] at hd
          omega
        have hc0 : 0 ≤ (s[k].toNat : Int) := by omega
        have He : Hid (lookE s = 4) := Lib.hid (by unfold lookE; rw [if_pos Hno.out])
        clear hd hst hno
        generalize (s[k].toNat : Int) = c at *
        rcases hd' with hd' | hd'
        all_goals
          go_wp2_with fail
          go_ret
          exact ⟨ret_int He.out.symm, rfl⟩
    · have h1 : (s.size : Int) ≤ (k : Int) := by omega
      have hy := dig_yes (s := s) (by have := hn.out; rw [List.take_of_length_le (by simp; omega)] at this; rw [List.take_of_length_le (by simp)]; exact this)
      by_cases hl : 999 < s.size
      · have He : Hid (lookE s = 2) := Lib.hid (by unfold lookE; rw [if_neg (by simp [hy]), if_pos hl])
        have hl' : (999 : Int) < (s.size : Int) := by omega
        clear hy hl hlt
        go_wp2_with fail
        go_ret
        exact ⟨ret_int He.out.symm, rfl⟩
      · have He : Hid (lookE s = 0) := Lib.hid (by unfold lookE; rw [if_neg (by simp [hy]), if_neg hl])
        have hl' : (s.size : Int) ≤ 999 := by omega
        clear hy hl hlt
        go_wp2_with fail
        go_ret
        exact ⟨ret_int He.out.symm, rfl⟩

end Go.Proofs.YtajhgejhdalobaaGreatDoor
