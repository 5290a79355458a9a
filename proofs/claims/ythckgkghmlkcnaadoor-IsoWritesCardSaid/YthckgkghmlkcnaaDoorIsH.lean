/-
  THE WALKS of the document's Number (of some digits), sign, take, ahead.
-/
import Derived.Test.YthckgkghmlkcnaaDoorRtTexts
import Derived.Test.YthckgkghmlkcnaaDoorDgN
import Derived.Test.YthckgkghmlkcnaaDoorIsA
import Derived.Test.YthckgkghmlkcnaaDoorIsD
namespace Go.Proofs.YthckgkghmlkcnaaDoor
open Go.RowKit

set_option maxRecDepth 100000 in
set_option maxHeartbeats 1600000 in
theorem rnumber_any (s : ByteArray) (w : World) (hd : (bl s).all isDig = true) (h0 : 1 ≤ s.size) (h3 : s.size ≤ 3) : Calls Tryd.prog 55 #[.string s] w fun e w' => e = .returned (.tuple #[.int .i64 (numB (bl s)), .int .i64 0]) ∧ w = w' := by
  have hlk : lookE s = 0 := by
    unfold lookE
    rw [if_neg (by unfold digB; rw [show s.data.toList.all isDig = true from hd]; simp), if_neg (by omega)]
  have HL := Lib.hid (fun W => rtexts_any s W (by unfold maxLen; omega))
  rw [hlk] at HL
  have hse : s.toList.isEmpty = false := by
    rw [ByteArray.toList_eq]
    cases hx : s.data.toList with
    | nil =>
      have := bl_len s
      rw [show bl s = [] from hx] at this
      simp at this
      omega
    | cons a r => rfl
  have HD := Lib.hid hd
  have htI : (s.size : Int) ≤ 3 := by omega
  clear hlk hd
  go_enter Tryd.func55, Tryd.ntmps55
  go_wp2_with fail
  refine (HL.out _).mono ?_
  rintro e w1 ⟨rfl, rfl⟩
  go_wp2_with fail
  go_loop [5, 6] (fun s5 s6 => ∃ (k : Nat) (a : Int), k ≤ s.size ∧ s6 = .int .i64 k ∧ s5 = .int .i64 a ∧ 0 ≤ a ∧ a < 1000 ∧ Hid (a = ((numB ((bl s).take k) : Nat) : Int))) (fun _ s6 => s.size - (intOf s6).toNat)
  case atStart => exact ⟨0, 0, Nat.zero_le _, rfl, rfl, by omega, by omega, Lib.hid rfl⟩
  case round =>
    obtain ⟨k, a, hk, rfl, rfl, ha0, ha1, HA⟩ := hrel
    by_cases hlt2 : k < s.size
    · have r1 : (k : Int) < (s.size : Int) := by omega
      have r0 : (0 : Int) ≤ (k : Int) := by omega
      have hk1 : k + 1 ≤ s.size := hlt2
      have hkb : k < (bl s).length := by rw [bl_len]; exact hlt2
      have hnt := numB_take hkb
      have hgk : (bl s)[k] = s[k] := by rw [ByteArray.getElem_eq_getElem_data]; simp
      rw [hgk] at hnt
      have hdk : isDig s[k] = true := by
        have := HD.out
        rw [List.all_eq_true] at this
        exact this s[k] (by rw [← hgk]; exact List.getElem_mem hkb)
      obtain ⟨x, hx, hxe, hxn⟩ := dig_nat hdk
      have hat := run_at s k hlt2
      have hb1 := numB_lt ((bl s).take (k + 1)) (by rw [List.all_eq_true]; intro c hc; have := HD.out; rw [List.all_eq_true] at this; exact this c (List.mem_of_mem_take hc))
      have hb2 : 10 ^ ((bl s).take (k + 1)).length ≤ 1000 := by
        refine Nat.le_trans (Nat.pow_le_pow_right (by omega) (show _ ≤ 3 by rw [List.length_take]; omega)) (by decide)
      rw [hxn] at hat hnt
      obtain ⟨y, hy⟩ : ∃ y : Int, ((48 + x : Nat) : Int) = y := ⟨_, rfl⟩
      have HN := Lib.hid (show 10 * a + (y - 48) = ((numB ((bl s).take (k + 1)) : Nat) : Int) by rw [HA.out]; omega)
      have hn1 : 10 * a + (y - 48) < 1000 := by rw [HN.out]; omega
      have hn0 : 0 ≤ 10 * a + (y - 48) := by omega
      have hy1 : y ≤ 57 := by omega
      have hy0 : 48 ≤ y := by omega
      rw [hy] at hat
      have hmx : a ≤ (9223372036854775807 - (y - 48)) / 10 := by omega
      clear hnt hgk hdk hkb hb1 hb2 hxe hxn hy HA
      go_wp2_with fail
      go_round
      case rel => exact ⟨k + 1, _, hk1, by go_num, rfl, hn0, hn1, HN⟩
      case measure => simp [intOf]; omega
    · have r1 : (s.size : Int) ≤ (k : Int) := by omega
      have HN := Lib.hid (show a = ((numB (bl s) : Nat) : Int) by rw [HA.out, List.take_of_length_le (by rw [bl_len]; omega)])
      clear hlt2 HA
      go_wp2_with fail
      go_ret2
      exact ⟨by rw [HN.out]; rfl, rfl⟩
theorem rsign_any (c : Int) (w : World) : Calls Tryd.prog 56 #[.int .u8 c] w fun e w' => e = .returned (.bool (decide (32 ≤ c) && decide (c ≤ 126))) ∧ w = w' := by
  by_cases h1 : 32 ≤ c
  · have e : (decide (32 ≤ c) && decide (c ≤ 126)) = decide (c ≤ 126) := by simp [h1]
    rw [e]
    clear e
    go_enter Tryd.func56, Tryd.ntmps56
    go_wp2_with fail
    go_ret
    exact ⟨rfl, rfl⟩
  · have e : (decide (32 ≤ c) && decide (c ≤ 126)) = false := by simp [h1]
    rw [e]
    have h1' : c < 32 := by omega
    clear e h1
    go_enter Tryd.func56, Tryd.ntmps56
    go_wp2_with fail
    go_ret
    exact ⟨rfl, rfl⟩
theorem rahead_any (kind long : Int) (w : World) : Calls Tryd.prog 38 #[.int .i64 kind, .int .i64 long] w fun e w' => e = .returned (.int .i64 (ahK kind long)) ∧ w = w' := by
  unfold ahK
  by_cases h2 : kind = 2
  · subst h2
    rw [if_pos (.inl rfl)]
    go_enter Tryd.func38, Tryd.ntmps38
    go_wp2_with fail
    go_ret
    exact ⟨rfl, rfl⟩
  · have h2b : (kind == 2) = false := by simpa using h2
    by_cases h4 : kind = 4
    · subst h4
      by_cases hl : long < 100
      · rw [if_pos (.inr ⟨rfl, hl⟩)]
        go_enter Tryd.func38, Tryd.ntmps38
        go_wp2_with fail
        go_ret
        exact ⟨rfl, rfl⟩
      · rw [if_neg (by omega), if_pos rfl]
        have hl' : 100 ≤ long := by omega
        clear hl
        go_enter Tryd.func38, Tryd.ntmps38
        go_wp2_with fail
        go_ret
        exact ⟨rfl, rfl⟩
    · rw [if_neg (by omega), if_neg h4]
      have h4b : (kind == 4) = false := by simpa using h4
      go_enter Tryd.func38, Tryd.ntmps38
      go_wp2_with fail
      go_ret
      exact ⟨rfl, rfl⟩
/-- so many bytes from a place on -/
def RTakeP (b : Bs) (at_ n : Nat) (w : World) (e : Ending) (w' : World) : Prop := ∃ (so : Option Addr) (sn sc : Nat) (x : Int), e = .returned (.tuple #[.slice so sn sc, .int .i64 x]) ∧ w = w' ∧ (x = 3 ∧ b.length < at_ + n ∨ x = 0 ∧ at_ + n ≤ b.length ∧ sn = n ∧ RowRd ByteR w so ((b.drop at_).take n))
theorem rtake_any {w : World} {bb off : Nat} {b : Bs} (h : RowRd ByteR w (some ⟨bb, off, none⟩) b) (cap : Nat) (hc : b.length ≤ cap) (hb63 : cap ≤ 9223372036854775807) (at_ n : Nat) (ha : at_ ≤ b.length) (hn : n ≤ 999) : Calls Tryd.prog 31 #[.slice (some ⟨bb, off, none⟩) b.length cap, .int .i64 at_, .int .i64 n] w (RTakeP b at_ n w) := by
  have HR := Lib.hid h
  clear h
  have a0 : (0 : Int) ≤ (at_ : Int) := by omega
  have a1 : (at_ : Int) ≤ (b.length : Int) := by omega
  have n9 : (n : Int) ≤ 999 := by omega
  have n0 : (0 : Int) ≤ (n : Int) := by omega
  have b63 : (b.length : Int) ≤ 9223372036854775807 := by omega
  by_cases hs : b.length < at_ + n
  · have hsI : (b.length : Int) - (at_ : Int) < (n : Int) := by omega
    have Hs := Lib.hid hs
    clear hs
    go_enter Tryd.func31, Tryd.ntmps31
    go_wp2_with fail
    go_ret2
    exact ⟨_, _, _, _, rfl, rfl, .inl ⟨rfl, Hs.out⟩⟩
  · have hsI : (n : Int) ≤ (b.length : Int) - (at_ : Int) := by omega
    have hs2 : (at_ : Int) + (n : Int) ≤ (cap : Int) := by omega
    have Hs := Lib.hid (show at_ + n ≤ b.length by omega)
    have hle : at_ ≤ at_ + n := by omega
    clear hs
    by_cases hcn : cap = at_
    · have hn0 : n = 0 := by omega
      subst hcn hn0
      go_enter Tryd.func31, Tryd.ntmps31
      go_wp2_with fail
      go_ret2
      exact ⟨_, _, _, _, rfl, rfl, .inr ⟨rfl, Hs.out, by omega, by rw [List.take_zero]; exact RowRd.empty⟩⟩
    · have HT := Lib.hid (RowRd.takeN (RowRd.drop HR.out at_) n)
      go_enter Tryd.func31, Tryd.ntmps31
      go_wp2_with fail
      go_ret2
      exact ⟨_, _, _, _, rfl, rfl, .inr ⟨rfl, Hs.out, by omega, HT.out⟩⟩
end Go.Proofs.YthckgkghmlkcnaaDoor
