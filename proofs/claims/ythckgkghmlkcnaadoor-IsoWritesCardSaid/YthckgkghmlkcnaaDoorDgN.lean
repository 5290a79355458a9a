/-
  THE WALK of digits.Number at a few digits.
-/
import Derived.Deep.CutBlock
import Derived.IntWalk
import Derived.Test.YthckgkghmlkcnaaDoorDgA
import Derived.Test.YthckgkghmlkcnaaDoorBytes
import Derived.Test.YthckgkghmlkcnaaDoorIsShelf
namespace Go.Proofs.YthckgkghmlkcnaaDoor
open Go.RowKit

theorem numB_snoc (l : Bs) (c : UInt8) : numB (l ++ [c]) = 10 * numB l + (c.toNat - 48) := by unfold numB; rw [List.foldl_append]; rfl
theorem numF_lt : ∀ (l : Bs) (acc : Nat), l.all isDig = true → l.foldl (fun n c => 10 * n + (c.toNat - 48)) acc < (acc + 1) * 10 ^ l.length
  | [], acc, _ => by simp
  | c :: r, acc, h => by
    rw [List.all_cons, Bool.and_eq_true] at h
    obtain ⟨x, hx, _, hn⟩ := dig_nat h.1
    have := numF_lt r (10 * acc + (c.toNat - 48)) h.2
    rw [List.foldl_cons]
    refine Nat.lt_of_lt_of_le this ?_
    rw [List.length_cons, Nat.pow_succ, Nat.mul_comm (10 ^ r.length) 10, ← Nat.mul_assoc]
    exact Nat.mul_le_mul_right _ (by omega)
theorem numB_lt (l : Bs) (h : l.all isDig = true) : numB l < 10 ^ l.length := by
  have := numF_lt l 0 h
  unfold numB
  omega
theorem numB_trim : ∀ (l : Bs), numB (Lib.trimLeftB l 48) = numB l
  | [] => rfl
  | c :: r => by
    unfold Lib.trimLeftB
    rw [List.dropWhile_cons]
    by_cases h : c = 48
    · subst h
      exact numB_trim r
    · rw [if_neg (by simpa using h)]
theorem trim_len (l : Bs) : (Lib.trimLeftB l 48).length ≤ l.length := by
  unfold Lib.trimLeftB
  exact (List.dropWhile_sublist _).length_le
theorem trim_dig {l : Bs} (h : l.all isDig = true) : (Lib.trimLeftB l 48).all isDig = true := by
  rw [List.all_eq_true] at h ⊢
  exact fun c hc => h c ((List.dropWhile_sublist _).subset hc)
theorem numB_take {l : Bs} {k : Nat} (hk : k < l.length) : numB (l.take (k + 1)) = 10 * numB (l.take k) + (l[k].toNat - 48) := by
  rw [List.take_succ_eq_append_getElem hk, numB_snoc]
set_option maxRecDepth 100000 in
set_option maxHeartbeats 1600000 in
theorem number_any (s : ByteArray) (w : World) (hd : (bl s).all isDig = true) (h0 : 1 ≤ s.size) (h3 : s.size ≤ 3) : Calls Tryd.prog 72 #[.string s] w fun e w' => e = .returned (.tuple #[.int .i64 (numB (bl s)), .int .i64 0]) ∧ w = w' := by
  have hlk : lookE s = 0 := by
    unfold lookE
    rw [if_neg (by unfold digB; rw [show s.data.toList.all isDig = true from hd]; simp), if_neg (by omega)]
  have HL := Lib.hid (fun W => look_any s W (by unfold maxLen; omega))
  rw [hlk] at HL
  have HT := Lib.hid (fun W => Tryd.strings_TrimLeft_one s 48 (by decide) W)
  obtain ⟨t, ht⟩ : ∃ t : ByteArray, (⟨(Lib.trimLeftB s.data.toList 48).toArray⟩ : ByteArray) = t := ⟨_, rfl⟩
  have htl : bl t = Lib.trimLeftB (bl s) 48 := by rw [← ht]
  rw [ht] at HT
  have hN := numB_trim (bl s)
  rw [← htl] at hN
  have htd : (bl t).all isDig = true := by rw [htl]; exact trim_dig hd
  have hts : t.size ≤ 3 := by
    have := trim_len (bl s)
    rw [← htl, bl_len, bl_len] at this
    omega
  have hse : s.toList.isEmpty = false := by
    rw [ByteArray.toList_eq]
    cases hx : s.data.toList with
    | nil =>
      have := bl_len s
      rw [show bl s = [] from hx] at this
      simp at this
      omega
    | cons a r => rfl
  have HN := Lib.hid hN
  have HD := Lib.hid htd
  have hlt := numB_lt (bl t) htd
  have h10 : 10 ^ (bl t).length ≤ 1000 := by
    rw [bl_len]
    exact Nat.le_trans (Nat.pow_le_pow_right (by omega) hts) (by decide)
  have htI : (t.size : Int) ≤ 3 := by omega
  clear hlk ht htl hd hN htd
  go_enter Tryd.func72, Tryd.ntmps72
  go_wp2_with fail
  refine (HL.out _).mono ?_
  rintro e w1 ⟨rfl, rfl⟩
  go_wp2_with fail
  refine (HT.out _).mono ?_
  rintro e w1 ⟨rfl, rfl⟩
  go_wp2_with fail
  go_loop [6, 24] (fun s6 s24 => ∃ k : Nat, k ≤ t.size ∧ s24 = .int .i64 k ∧ s6 = .int .u64 (numB ((bl t).take k))) (fun _ s24 => t.size - (intOf s24).toNat)
  case atStart => exact ⟨0, Nat.zero_le _, rfl, rfl⟩
  case round =>
    obtain ⟨k, hk, rfl, rfl⟩ := hrel
    by_cases hlt2 : k < t.size
    · have r1 : (k : Int) < (t.size : Int) := by omega
      have hk1 : k + 1 ≤ t.size := hlt2
      have hkb : k < (bl t).length := by rw [bl_len]; exact hlt2
      have hnt := numB_take hkb
      have hgk : (bl t)[k] = t[k] := by rw [ByteArray.getElem_eq_getElem_data]; simp
      rw [hgk] at hnt
      have hdk : isDig t[k] = true := by
        have := HD.out
        rw [List.all_eq_true] at this
        exact this t[k] (by rw [← hgk]; exact List.getElem_mem hkb)
      obtain ⟨x, hx, hxe, hxn⟩ := dig_nat hdk
      have hat := run_at t k hlt2
      have hb1 := numB_lt ((bl t).take k) (by rw [List.all_eq_true]; intro c hc; have := HD.out; rw [List.all_eq_true] at this; exact this c (List.mem_of_mem_take hc))
      have hb2 : 10 ^ ((bl t).take k).length ≤ 1000 := by
        refine Nat.le_trans (Nat.pow_le_pow_right (by omega) (show _ ≤ 3 by rw [List.length_take]; omega)) (by decide)
      rw [hxn] at hat hnt
      generalize numB ((bl t).take k) = a0 at *
      have hntI : ((numB ((bl t).take (k + 1)) : Nat) : Int) = 10 * (a0 : Int) + (x : Int) := by omega
      have HNt := Lib.hid hntI
      have haI : (a0 : Int) < 1000 := by omega
      have hxI : (x : Int) < 10 := by omega
      clear hnt hntI hgk hdk hkb hb1 hb2 hxe hxn
      go_wp2_with fail
      go_round
      case rel => exact ⟨k + 1, hk1, by go_num, by rw [HNt.out]; go_num⟩
      case measure => simp [intOf]; omega
    · have r1 : (t.size : Int) ≤ (k : Int) := by omega
      have e : k = t.size := by omega
      subst e
      rw [List.take_of_length_le (by rw [bl_len]; omega)]
      rw [HN.out] at hlt ⊢
      have hI : ((numB (bl s) : Nat) : Int) < 1000 := by omega
      clear hlt2
      go_wp2_with fail
      go_ret2
      exact ⟨rfl, rfl⟩
end Go.Proofs.YthckgkghmlkcnaaDoor
