/-
  THE WALKS of Put's two closures, slices.IndexFunc and Clone at fields.
-/
import Derived.Deep.CutBlock
import Derived.IntWalk
import Derived.Deep.RegionHeld3
import Derived.StillTailTactics
import Derived.Deep.LoopGhost
import Derived.Deep.DeepCutAuto
import Derived.Lib.SliceRun
import Derived.Lib.AppendZerosOnto
import Derived.OwnWalk
import Derived.Shelf.Abstract
import Derived.Test.YtajhgejhdalobaaGreatDoorOwnB
import Derived.Test.YtajhgejhdalobaaGreatDoorIsB
import Derived.Test.YtajhgejhdalobaaGreatDoorDgA
namespace Go.Proofs.YtajhgejhdalobaaGreatDoor
open Go.RowKit

def FmtP (n : Int) (w : World) (e : Ending) (w' : World) : Prop := e = .returned (.tuple #[.int .i64 (kindOf n), .int .i64 (longOf n), .bool (fmtOk n)]) ∧ w = w'
set_option maxRecDepth 100000 in
set_option maxHeartbeats 3200000 in
theorem format_any (n : Int) (w : World) : Calls Tryz.prog 103 #[.int .i64 n] w (FmtP n w) := by
  by_cases h2 : n = 2
  · subst h2
    show Calls Tryz.prog 103 _ w (fun e w' => e = .returned (.tuple #[.int .i64 (kindOf 2), .int .i64 (longOf 2), .bool (fmtOk 2)]) ∧ w = w')
    rw [show kindOf 2 = (fmt 2).1 from rfl, show longOf 2 = (fmt 2).2.1 from rfl, show fmtOk 2 = (fmt 2).2.2 from rfl]
    simp only [fmt]
    go_enter Tryz.func103, Tryz.ntmps103
    go_wp2_with fail
    go_ret3
    exact ⟨rfl, rfl⟩
  by_cases h3 : n = 3
  · subst h3
    show Calls Tryz.prog 103 _ w (fun e w' => e = .returned (.tuple #[.int .i64 (kindOf 3), .int .i64 (longOf 3), .bool (fmtOk 3)]) ∧ w = w')
    rw [show kindOf 3 = (fmt 3).1 from rfl, show longOf 3 = (fmt 3).2.1 from rfl, show fmtOk 3 = (fmt 3).2.2 from rfl]
    simp only [fmt]
    go_enter Tryz.func103, Tryz.ntmps103
    go_wp2_with fail
    go_ret3
    exact ⟨rfl, rfl⟩
  by_cases h11 : n = 11
  · subst h11
    show Calls Tryz.prog 103 _ w (fun e w' => e = .returned (.tuple #[.int .i64 (kindOf 11), .int .i64 (longOf 11), .bool (fmtOk 11)]) ∧ w = w')
    rw [show kindOf 11 = (fmt 11).1 from rfl, show longOf 11 = (fmt 11).2.1 from rfl, show fmtOk 11 = (fmt 11).2.2 from rfl]
    simp only [fmt]
    go_enter Tryz.func103, Tryz.ntmps103
    go_wp2_with fail
    go_ret3
    exact ⟨rfl, rfl⟩
  by_cases h12 : n = 12
  · subst h12
    show Calls Tryz.prog 103 _ w (fun e w' => e = .returned (.tuple #[.int .i64 (kindOf 12), .int .i64 (longOf 12), .bool (fmtOk 12)]) ∧ w = w')
    rw [show kindOf 12 = (fmt 12).1 from rfl, show longOf 12 = (fmt 12).2.1 from rfl, show fmtOk 12 = (fmt 12).2.2 from rfl]
    simp only [fmt]
    go_enter Tryz.func103, Tryz.ntmps103
    go_wp2_with fail
    go_ret3
    exact ⟨rfl, rfl⟩
  by_cases h4 : n = 4
  · subst h4
    show Calls Tryz.prog 103 _ w (fun e w' => e = .returned (.tuple #[.int .i64 (kindOf 4), .int .i64 (longOf 4), .bool (fmtOk 4)]) ∧ w = w')
    rw [show kindOf 4 = (fmt 4).1 from rfl, show longOf 4 = (fmt 4).2.1 from rfl, show fmtOk 4 = (fmt 4).2.2 from rfl]
    simp only [fmt]
    go_enter Tryz.func103, Tryz.ntmps103
    go_wp2_with fail
    go_ret3
    exact ⟨rfl, rfl⟩
  by_cases h7 : n = 7
  · subst h7
    show Calls Tryz.prog 103 _ w (fun e w' => e = .returned (.tuple #[.int .i64 (kindOf 7), .int .i64 (longOf 7), .bool (fmtOk 7)]) ∧ w = w')
    rw [show kindOf 7 = (fmt 7).1 from rfl, show longOf 7 = (fmt 7).2.1 from rfl, show fmtOk 7 = (fmt 7).2.2 from rfl]
    simp only [fmt]
    go_enter Tryz.func103, Tryz.ntmps103
    go_wp2_with fail
    go_ret3
    exact ⟨rfl, rfl⟩
  by_cases h13 : n = 13
  · subst h13
    show Calls Tryz.prog 103 _ w (fun e w' => e = .returned (.tuple #[.int .i64 (kindOf 13), .int .i64 (longOf 13), .bool (fmtOk 13)]) ∧ w = w')
    rw [show kindOf 13 = (fmt 13).1 from rfl, show longOf 13 = (fmt 13).2.1 from rfl, show fmtOk 13 = (fmt 13).2.2 from rfl]
    simp only [fmt]
    go_enter Tryz.func103, Tryz.ntmps103
    go_wp2_with fail
    go_ret3
    exact ⟨rfl, rfl⟩
  by_cases h14 : n = 14
  · subst h14
    show Calls Tryz.prog 103 _ w (fun e w' => e = .returned (.tuple #[.int .i64 (kindOf 14), .int .i64 (longOf 14), .bool (fmtOk 14)]) ∧ w = w')
    rw [show kindOf 14 = (fmt 14).1 from rfl, show longOf 14 = (fmt 14).2.1 from rfl, show fmtOk 14 = (fmt 14).2.2 from rfl]
    simp only [fmt]
    go_enter Tryz.func103, Tryz.ntmps103
    go_wp2_with fail
    go_ret3
    exact ⟨rfl, rfl⟩
  by_cases h18 : n = 18
  · subst h18
    show Calls Tryz.prog 103 _ w (fun e w' => e = .returned (.tuple #[.int .i64 (kindOf 18), .int .i64 (longOf 18), .bool (fmtOk 18)]) ∧ w = w')
    rw [show kindOf 18 = (fmt 18).1 from rfl, show longOf 18 = (fmt 18).2.1 from rfl, show fmtOk 18 = (fmt 18).2.2 from rfl]
    simp only [fmt]
    go_enter Tryz.func103, Tryz.ntmps103
    go_wp2_with fail
    go_ret3
    exact ⟨rfl, rfl⟩
  by_cases h22 : n = 22
  · subst h22
    show Calls Tryz.prog 103 _ w (fun e w' => e = .returned (.tuple #[.int .i64 (kindOf 22), .int .i64 (longOf 22), .bool (fmtOk 22)]) ∧ w = w')
    rw [show kindOf 22 = (fmt 22).1 from rfl, show longOf 22 = (fmt 22).2.1 from rfl, show fmtOk 22 = (fmt 22).2.2 from rfl]
    simp only [fmt]
    go_enter Tryz.func103, Tryz.ntmps103
    go_wp2_with fail
    go_ret3
    exact ⟨rfl, rfl⟩
  by_cases h49 : n = 49
  · subst h49
    show Calls Tryz.prog 103 _ w (fun e w' => e = .returned (.tuple #[.int .i64 (kindOf 49), .int .i64 (longOf 49), .bool (fmtOk 49)]) ∧ w = w')
    rw [show kindOf 49 = (fmt 49).1 from rfl, show longOf 49 = (fmt 49).2.1 from rfl, show fmtOk 49 = (fmt 49).2.2 from rfl]
    simp only [fmt]
    go_enter Tryz.func103, Tryz.ntmps103
    go_wp2_with fail
    go_ret3
    exact ⟨rfl, rfl⟩
  by_cases h70 : n = 70
  · subst h70
    show Calls Tryz.prog 103 _ w (fun e w' => e = .returned (.tuple #[.int .i64 (kindOf 70), .int .i64 (longOf 70), .bool (fmtOk 70)]) ∧ w = w')
    rw [show kindOf 70 = (fmt 70).1 from rfl, show longOf 70 = (fmt 70).2.1 from rfl, show fmtOk 70 = (fmt 70).2.2 from rfl]
    simp only [fmt]
    go_enter Tryz.func103, Tryz.ntmps103
    go_wp2_with fail
    go_ret3
    exact ⟨rfl, rfl⟩
  by_cases h25 : n = 25
  · subst h25
    show Calls Tryz.prog 103 _ w (fun e w' => e = .returned (.tuple #[.int .i64 (kindOf 25), .int .i64 (longOf 25), .bool (fmtOk 25)]) ∧ w = w')
    rw [show kindOf 25 = (fmt 25).1 from rfl, show longOf 25 = (fmt 25).2.1 from rfl, show fmtOk 25 = (fmt 25).2.2 from rfl]
    simp only [fmt]
    go_enter Tryz.func103, Tryz.ntmps103
    go_wp2_with fail
    go_ret3
    exact ⟨rfl, rfl⟩
  by_cases h32 : n = 32
  · subst h32
    show Calls Tryz.prog 103 _ w (fun e w' => e = .returned (.tuple #[.int .i64 (kindOf 32), .int .i64 (longOf 32), .bool (fmtOk 32)]) ∧ w = w')
    rw [show kindOf 32 = (fmt 32).1 from rfl, show longOf 32 = (fmt 32).2.1 from rfl, show fmtOk 32 = (fmt 32).2.2 from rfl]
    simp only [fmt]
    go_enter Tryz.func103, Tryz.ntmps103
    go_wp2_with fail
    go_ret3
    exact ⟨rfl, rfl⟩
  by_cases h37 : n = 37
  · subst h37
    show Calls Tryz.prog 103 _ w (fun e w' => e = .returned (.tuple #[.int .i64 (kindOf 37), .int .i64 (longOf 37), .bool (fmtOk 37)]) ∧ w = w')
    rw [show kindOf 37 = (fmt 37).1 from rfl, show longOf 37 = (fmt 37).2.1 from rfl, show fmtOk 37 = (fmt 37).2.2 from rfl]
    simp only [fmt]
    go_enter Tryz.func103, Tryz.ntmps103
    go_wp2_with fail
    go_ret3
    exact ⟨rfl, rfl⟩
  by_cases h38 : n = 38
  · subst h38
    show Calls Tryz.prog 103 _ w (fun e w' => e = .returned (.tuple #[.int .i64 (kindOf 38), .int .i64 (longOf 38), .bool (fmtOk 38)]) ∧ w = w')
    rw [show kindOf 38 = (fmt 38).1 from rfl, show longOf 38 = (fmt 38).2.1 from rfl, show fmtOk 38 = (fmt 38).2.2 from rfl]
    simp only [fmt]
    go_enter Tryz.func103, Tryz.ntmps103
    go_wp2_with fail
    go_ret3
    exact ⟨rfl, rfl⟩
  by_cases h39 : n = 39
  · subst h39
    show Calls Tryz.prog 103 _ w (fun e w' => e = .returned (.tuple #[.int .i64 (kindOf 39), .int .i64 (longOf 39), .bool (fmtOk 39)]) ∧ w = w')
    rw [show kindOf 39 = (fmt 39).1 from rfl, show longOf 39 = (fmt 39).2.1 from rfl, show fmtOk 39 = (fmt 39).2.2 from rfl]
    simp only [fmt]
    go_enter Tryz.func103, Tryz.ntmps103
    go_wp2_with fail
    go_ret3
    exact ⟨rfl, rfl⟩
  by_cases h41 : n = 41
  · subst h41
    show Calls Tryz.prog 103 _ w (fun e w' => e = .returned (.tuple #[.int .i64 (kindOf 41), .int .i64 (longOf 41), .bool (fmtOk 41)]) ∧ w = w')
    rw [show kindOf 41 = (fmt 41).1 from rfl, show longOf 41 = (fmt 41).2.1 from rfl, show fmtOk 41 = (fmt 41).2.2 from rfl]
    simp only [fmt]
    go_enter Tryz.func103, Tryz.ntmps103
    go_wp2_with fail
    go_ret3
    exact ⟨rfl, rfl⟩
  by_cases h42 : n = 42
  · subst h42
    show Calls Tryz.prog 103 _ w (fun e w' => e = .returned (.tuple #[.int .i64 (kindOf 42), .int .i64 (longOf 42), .bool (fmtOk 42)]) ∧ w = w')
    rw [show kindOf 42 = (fmt 42).1 from rfl, show longOf 42 = (fmt 42).2.1 from rfl, show fmtOk 42 = (fmt 42).2.2 from rfl]
    simp only [fmt]
    go_enter Tryz.func103, Tryz.ntmps103
    go_wp2_with fail
    go_ret3
    exact ⟨rfl, rfl⟩
  by_cases h48 : n = 48
  · subst h48
    show Calls Tryz.prog 103 _ w (fun e w' => e = .returned (.tuple #[.int .i64 (kindOf 48), .int .i64 (longOf 48), .bool (fmtOk 48)]) ∧ w = w')
    rw [show kindOf 48 = (fmt 48).1 from rfl, show longOf 48 = (fmt 48).2.1 from rfl, show fmtOk 48 = (fmt 48).2.2 from rfl]
    simp only [fmt]
    go_enter Tryz.func103, Tryz.ntmps103
    go_wp2_with fail
    go_ret3
    exact ⟨rfl, rfl⟩
  by_cases h52 : n = 52
  · subst h52
    show Calls Tryz.prog 103 _ w (fun e w' => e = .returned (.tuple #[.int .i64 (kindOf 52), .int .i64 (longOf 52), .bool (fmtOk 52)]) ∧ w = w')
    rw [show kindOf 52 = (fmt 52).1 from rfl, show longOf 52 = (fmt 52).2.1 from rfl, show fmtOk 52 = (fmt 52).2.2 from rfl]
    simp only [fmt]
    go_enter Tryz.func103, Tryz.ntmps103
    go_wp2_with fail
    go_ret3
    exact ⟨rfl, rfl⟩
  by_cases h54 : n = 54
  · subst h54
    show Calls Tryz.prog 103 _ w (fun e w' => e = .returned (.tuple #[.int .i64 (kindOf 54), .int .i64 (longOf 54), .bool (fmtOk 54)]) ∧ w = w')
    rw [show kindOf 54 = (fmt 54).1 from rfl, show longOf 54 = (fmt 54).2.1 from rfl, show fmtOk 54 = (fmt 54).2.2 from rfl]
    simp only [fmt]
    go_enter Tryz.func103, Tryz.ntmps103
    go_wp2_with fail
    go_ret3
    exact ⟨rfl, rfl⟩
  by_cases h90 : n = 90
  · subst h90
    show Calls Tryz.prog 103 _ w (fun e w' => e = .returned (.tuple #[.int .i64 (kindOf 90), .int .i64 (longOf 90), .bool (fmtOk 90)]) ∧ w = w')
    rw [show kindOf 90 = (fmt 90).1 from rfl, show longOf 90 = (fmt 90).2.1 from rfl, show fmtOk 90 = (fmt 90).2.2 from rfl]
    simp only [fmt]
    go_enter Tryz.func103, Tryz.ntmps103
    go_wp2_with fail
    go_ret3
    exact ⟨rfl, rfl⟩
  by_cases h95 : n = 95
  · subst h95
    show Calls Tryz.prog 103 _ w (fun e w' => e = .returned (.tuple #[.int .i64 (kindOf 95), .int .i64 (longOf 95), .bool (fmtOk 95)]) ∧ w = w')
    rw [show kindOf 95 = (fmt 95).1 from rfl, show longOf 95 = (fmt 95).2.1 from rfl, show fmtOk 95 = (fmt 95).2.2 from rfl]
    simp only [fmt]
    go_enter Tryz.func103, Tryz.ntmps103
    go_wp2_with fail
    go_ret3
    exact ⟨rfl, rfl⟩
  by_cases h102 : n = 102
  · subst h102
    show Calls Tryz.prog 103 _ w (fun e w' => e = .returned (.tuple #[.int .i64 (kindOf 102), .int .i64 (longOf 102), .bool (fmtOk 102)]) ∧ w = w')
    rw [show kindOf 102 = (fmt 102).1 from rfl, show longOf 102 = (fmt 102).2.1 from rfl, show fmtOk 102 = (fmt 102).2.2 from rfl]
    simp only [fmt]
    go_enter Tryz.func103, Tryz.ntmps103
    go_wp2_with fail
    go_ret3
    exact ⟨rfl, rfl⟩
  · have hf : fmt n = (0, 0, false) := by
      unfold fmt
      repeat rw [if_neg (by omega)]
    have hk : kindOf n = 0 ∧ longOf n = 0 ∧ fmtOk n = false := by unfold kindOf longOf fmtOk; rw [hf]; exact ⟨rfl, rfl, rfl⟩
    unfold FmtP
    rw [hk.1, hk.2.1, hk.2.2]
    clear hf hk
    go_enter Tryz.func103, Tryz.ntmps103
    go_wp2_with fail
    go_ret3
    exact ⟨rfl, rfl⟩
theorem digit_any (c : Int) (w : World) : Calls Tryz.prog 236 #[.int .i32 c] w fun e w' => e = .returned (.bool (decide (48 ≤ c) && decide (c ≤ 57))) ∧ w = w' := by
  by_cases h1 : 48 ≤ c
  · have e : (decide (48 ≤ c) && decide (c ≤ 57)) = decide (c ≤ 57) := by simp [h1]
    rw [e]
    clear e
    go_enter Tryz.func236, Tryz.ntmps236
    go_wp2_with fail
    go_ret
    exact ⟨rfl, rfl⟩
  · have e : (decide (48 ≤ c) && decide (c ≤ 57)) = false := by simp [h1]
    rw [e]
    have h1' : c < 48 := by omega
    clear e h1
    go_enter Tryz.func236, Tryz.ntmps236
    go_wp2_with fail
    go_ret
    exact ⟨rfl, rfl⟩
theorem sign_any (c : Int) (w : World) : Calls Tryz.prog 235 #[.int .i32 c] w fun e w' => e = .returned (.bool (decide (32 ≤ c) && decide (c ≤ 126))) ∧ w = w' := by
  by_cases h1 : 32 ≤ c
  · have e : (decide (32 ≤ c) && decide (c ≤ 126)) = decide (c ≤ 126) := by simp [h1]
    rw [e]
    clear e
    go_enter Tryz.func235, Tryz.ntmps235
    go_wp2_with fail
    go_ret
    exact ⟨rfl, rfl⟩
  · have e : (decide (32 ≤ c) && decide (c ≤ 126)) = false := by simp [h1]
    rw [e]
    have h1' : c < 32 := by omega
    clear e h1
    go_enter Tryz.func235, Tryz.ntmps235
    go_wp2_with fail
    go_ret
    exact ⟨rfl, rfl⟩
theorem other_step {s : ByteArray} {k : Nat} {kind : Int} (hk : k < s.size) : otherB ((bl s).take (k + 1)) kind = (otherB ((bl s).take k) kind || badC kind s[k]) := by
  unfold otherB
  have h : k < (bl s).length := by rw [bl_len]; exact hk
  rw [List.take_succ_eq_append_getElem h, List.any_append]
  congr 1
  rw [List.any_cons, List.any_nil, Bool.or_false]
  rfl
theorem other_mono {s : ByteArray} {k : Nat} {kind : Int} (h : otherB ((bl s).take k) kind = true) : otherB (bl s) kind = true := by
  unfold otherB at h ⊢
  rw [List.any_eq_true] at h ⊢
  obtain ⟨c, hc, hb⟩ := h
  exact ⟨c, List.mem_of_mem_take hc, hb⟩
theorem other_at {s : ByteArray} {k : Nat} {kind : Int} (hk : k < s.size) (h : badC kind s[k] = true) : otherB (bl s) kind = true := by
  refine other_mono (k := k + 1) ?_
  rw [other_step hk, h, Bool.or_true]
set_option maxRecDepth 100000 in
set_option maxHeartbeats 1600000 in
theorem other_any (s : ByteArray) (kind : Int) (w : World) (hs : s.size ≤ maxLen) : Calls Tryz.prog 171 #[.string s, .int .i64 kind] w fun e w' => e = .returned (.bool (otherB (bl s) kind)) ∧ w = w' := by
  unfold maxLen at hs
  by_cases h5 : kind = 5
  · subst h5
    have e : otherB (bl s) 5 = false := by unfold otherB; exact List.any_eq_false.2 (fun c _ => by unfold badC; simp)
    rw [e]
    clear e
    go_enter Tryz.func171, Tryz.ntmps171
    go_wp2_with fail
    go_ret
    exact ⟨rfl, rfl⟩
  by_cases h1' : kind = 1
  · subst h1'
    have hbad : ∀ c : UInt8, badC 1 c = !(decide ((48 : Int) ≤ (c.toNat : Int)) && decide ((c.toNat : Int) ≤ 57)) := by
      intro c
      unfold badC isDig
      rw [if_neg (by omega), if_pos (by omega)]
      have e1 : decide ((48 : Int) ≤ (c.toNat : Int)) = decide (48 ≤ c.toNat) := by simp only [decide_eq_decide]; omega
      have e2 : decide ((c.toNat : Int) ≤ 57) = decide (c.toNat ≤ 57) := by simp only [decide_eq_decide]; omega
      rw [e1, e2]
    have Hbad := Lib.hid hbad
    clear hbad
    go_enter Tryz.func171, Tryz.ntmps171
    go_wp2_with fail
    go_loop [15] (fun s15 => ∃ k : Nat, k ≤ s.size ∧ s15 = .int .i64 k ∧ Hid (otherB ((bl s).take k) 1 = false)) (fun s15 => s.size - (intOf s15).toNat)
    case atStart => exact ⟨0, Nat.zero_le _, rfl, Lib.hid rfl⟩
    case round =>
      obtain ⟨k, hk, rfl, hn⟩ := hrel
      by_cases hlt : k < s.size
      · have h1 : (k : Int) < (s.size : Int) := by omega
        have hc256 : (s[k].toNat : Int) < 256 := by have := s[k].toNat_lt; omega
        have hat := run_at s k hlt
        have hk1 : k + 1 ≤ s.size := hlt
        have hb := Hbad.out s[k]
        have Hst := Lib.hid (fun (h : badC 1 s[k] = false) => (by rw [other_step hlt, hn.out, h]; rfl : otherB ((bl s).take (k + 1)) 1 = false))
        have Hno := Lib.hid (fun (h : badC 1 s[k] = true) => other_at hlt h)
        obtain ⟨bb, hbb⟩ : ∃ bb, (decide ((48 : Int) ≤ (s[k].toNat : Int)) && decide ((s[k].toNat : Int) ≤ 57)) = bb := ⟨_, rfl⟩
        have HD := Lib.hid (digit_any (s[k].toNat : Int))
        rw [hbb] at hb HD
        have HST := Lib.hid (fun (h : bb = true) => Hst.out (by rw [hb, h]; rfl))
        have HNO := Lib.hid (fun (h : bb = false) => Hno.out (by rw [hb, h]; rfl))
        have hc0 : (0 : Int) ≤ (s[k].toNat : Int) := by omega
        clear hbb hb Hst Hno
        generalize (s[k].toNat : Int) = c at *
        go_wp2_with fail
        refine (HD.out _).mono ?_
        rintro e w' ⟨rfl, rfl⟩
        cases bb with
        | true =>
          have H2 := Lib.hid (HST.out rfl)
          go_wp2_with fail
          go_round
          case rel => exact ⟨k + 1, hk1, by go_num, H2⟩
          case measure => simp [intOf]; omega
        | false =>
          have H2 := Lib.hid (HNO.out rfl)
          go_wp2_with fail
          go_ret
          exact ⟨ret_bool H2.out.symm, rfl⟩
      · have h1 : (s.size : Int) ≤ (k : Int) := by omega
        have H2 := Lib.hid (show otherB (bl s) 1 = false from (by have := hn.out; rwa [List.take_of_length_le (by rw [bl_len]; omega)] at this))
        clear hlt hn
        go_wp2_with fail
        go_ret
        exact ⟨ret_bool H2.out.symm, rfl⟩
  by_cases h2' : kind = 2
  · subst h2'
    have hbad : ∀ c : UInt8, badC 2 c = !(decide ((48 : Int) ≤ (c.toNat : Int)) && decide ((c.toNat : Int) ≤ 57)) := by
      intro c
      unfold badC isDig
      rw [if_neg (by omega), if_pos (by omega)]
      have e1 : decide ((48 : Int) ≤ (c.toNat : Int)) = decide (48 ≤ c.toNat) := by simp only [decide_eq_decide]; omega
      have e2 : decide ((c.toNat : Int) ≤ 57) = decide (c.toNat ≤ 57) := by simp only [decide_eq_decide]; omega
      rw [e1, e2]
    have Hbad := Lib.hid hbad
    clear hbad
    go_enter Tryz.func171, Tryz.ntmps171
    go_wp2_with fail
    go_loop [15] (fun s15 => ∃ k : Nat, k ≤ s.size ∧ s15 = .int .i64 k ∧ Hid (otherB ((bl s).take k) 2 = false)) (fun s15 => s.size - (intOf s15).toNat)
    case atStart => exact ⟨0, Nat.zero_le _, rfl, Lib.hid rfl⟩
    case round =>
      obtain ⟨k, hk, rfl, hn⟩ := hrel
      by_cases hlt : k < s.size
      · have h1 : (k : Int) < (s.size : Int) := by omega
        have hc256 : (s[k].toNat : Int) < 256 := by have := s[k].toNat_lt; omega
        have hat := run_at s k hlt
        have hk1 : k + 1 ≤ s.size := hlt
        have hb := Hbad.out s[k]
        have Hst := Lib.hid (fun (h : badC 2 s[k] = false) => (by rw [other_step hlt, hn.out, h]; rfl : otherB ((bl s).take (k + 1)) 2 = false))
        have Hno := Lib.hid (fun (h : badC 2 s[k] = true) => other_at hlt h)
        obtain ⟨bb, hbb⟩ : ∃ bb, (decide ((48 : Int) ≤ (s[k].toNat : Int)) && decide ((s[k].toNat : Int) ≤ 57)) = bb := ⟨_, rfl⟩
        have HD := Lib.hid (digit_any (s[k].toNat : Int))
        rw [hbb] at hb HD
        have HST := Lib.hid (fun (h : bb = true) => Hst.out (by rw [hb, h]; rfl))
        have HNO := Lib.hid (fun (h : bb = false) => Hno.out (by rw [hb, h]; rfl))
        have hc0 : (0 : Int) ≤ (s[k].toNat : Int) := by omega
        clear hbb hb Hst Hno
        generalize (s[k].toNat : Int) = c at *
        go_wp2_with fail
        refine (HD.out _).mono ?_
        rintro e w' ⟨rfl, rfl⟩
        cases bb with
        | true =>
          have H2 := Lib.hid (HST.out rfl)
          go_wp2_with fail
          go_round
          case rel => exact ⟨k + 1, hk1, by go_num, H2⟩
          case measure => simp [intOf]; omega
        | false =>
          have H2 := Lib.hid (HNO.out rfl)
          go_wp2_with fail
          go_ret
          exact ⟨ret_bool H2.out.symm, rfl⟩
      · have h1 : (s.size : Int) ≤ (k : Int) := by omega
        have H2 := Lib.hid (show otherB (bl s) 2 = false from (by have := hn.out; rwa [List.take_of_length_le (by rw [bl_len]; omega)] at this))
        clear hlt hn
        go_wp2_with fail
        go_ret
        exact ⟨ret_bool H2.out.symm, rfl⟩
  · have hbad : ∀ c : UInt8, badC kind c = !(decide ((32 : Int) ≤ (c.toNat : Int)) && decide ((c.toNat : Int) ≤ 126)) := by
      intro c
      unfold badC isSign
      rw [if_neg h5, if_neg (by omega)]
      have e1 : decide ((32 : Int) ≤ (c.toNat : Int)) = decide (32 ≤ c.toNat) := by simp only [decide_eq_decide]; omega
      have e2 : decide ((c.toNat : Int) ≤ 126) = decide (c.toNat ≤ 126) := by simp only [decide_eq_decide]; omega
      rw [e1, e2]
    have Hbad := Lib.hid hbad
    clear hbad
    go_enter Tryz.func171, Tryz.ntmps171
    go_wp2_with fail
    rw [show (kind == 5) = false by simpa using h5, show (kind == 1) = false by simpa using h1', show (kind == 2) = false by simpa using h2']
    go_loop [15] (fun s15 => ∃ k : Nat, k ≤ s.size ∧ s15 = .int .i64 k ∧ Hid (otherB ((bl s).take k) kind = false)) (fun s15 => s.size - (intOf s15).toNat)
    case atStart => exact ⟨0, Nat.zero_le _, rfl, Lib.hid rfl⟩
    case round =>
      obtain ⟨k, hk, rfl, hn⟩ := hrel
      by_cases hlt : k < s.size
      · have h1 : (k : Int) < (s.size : Int) := by omega
        have hc256 : (s[k].toNat : Int) < 256 := by have := s[k].toNat_lt; omega
        have hat := run_at s k hlt
        have hk1 : k + 1 ≤ s.size := hlt
        have hb := Hbad.out s[k]
        have Hst := Lib.hid (fun (h : badC kind s[k] = false) => (by rw [other_step hlt, hn.out, h]; rfl : otherB ((bl s).take (k + 1)) kind = false))
        have Hno := Lib.hid (fun (h : badC kind s[k] = true) => other_at hlt h)
        obtain ⟨bb, hbb⟩ : ∃ bb, (decide ((32 : Int) ≤ (s[k].toNat : Int)) && decide ((s[k].toNat : Int) ≤ 126)) = bb := ⟨_, rfl⟩
        have HD := Lib.hid (sign_any (s[k].toNat : Int))
        rw [hbb] at hb HD
        have HST := Lib.hid (fun (h : bb = true) => Hst.out (by rw [hb, h]; rfl))
        have HNO := Lib.hid (fun (h : bb = false) => Hno.out (by rw [hb, h]; rfl))
        have hc0 : (0 : Int) ≤ (s[k].toNat : Int) := by omega
        clear hbb hb Hst Hno
        generalize (s[k].toNat : Int) = c at *
        go_wp2_with fail
        refine (HD.out _).mono ?_
        rintro e w' ⟨rfl, rfl⟩
        cases bb with
        | true =>
          have H2 := Lib.hid (HST.out rfl)
          go_wp2_with fail
          go_round
          case rel => exact ⟨k + 1, hk1, by go_num, H2⟩
          case measure => simp [intOf]; omega
        | false =>
          have H2 := Lib.hid (HNO.out rfl)
          go_wp2_with fail
          go_ret
          exact ⟨ret_bool H2.out.symm, rfl⟩
      · have h1 : (s.size : Int) ≤ (k : Int) := by omega
        have H2 := Lib.hid (show otherB (bl s) kind = false from (by have := hn.out; rwa [List.take_of_length_le (by rw [bl_len]; omega)] at this))
        clear hlt hn
        go_wp2_with fail
        go_ret
        exact ⟨ret_bool H2.out.symm, rfl⟩

set_option maxHeartbeats 1600000 in
theorem value_any (s : ByteArray) (kind long : Int) (w : World) (hs : s.size ≤ maxLen) (hl : 0 ≤ long ∧ long ≤ 9223372036854775807) : Calls Tryz.prog 102 #[.string s, .int .i64 kind, .int .i64 long] w fun e w' => e = .returned (.int .i64 (valueE (bl s) kind long)) ∧ w = w' := by
  have HO := Lib.hid (fun W => other_any s kind W hs)
  unfold maxLen at hs
  unfold valueE
  rw [bl_len]
  cases ho : otherB (bl s) kind with
  | true =>
    rw [ho] at HO
    simp only [if_true]
    clear ho
    go_enter Tryz.func102, Tryz.ntmps102
    go_wp2_with fail
    refine (HO.out _).mono ?_
    rintro e w' ⟨rfl, rfl⟩
    go_wp2_with fail
    go_ret
    exact ⟨rfl, rfl⟩
  | false =>
    rw [ho] at HO
    simp only [Bool.false_eq_true, if_false]
    clear ho
    by_cases hk : kind = 2 ∨ kind = 4
    · rw [if_pos hk]
      by_cases h1 : long < (s.size : Int)
      · rw [if_pos h1]
        rcases hk with rfl | rfl
        all_goals
          go_enter Tryz.func102, Tryz.ntmps102
          go_wp2_with fail
          refine (HO.out _).mono ?_
          rintro e w' ⟨rfl, rfl⟩
          go_wp2_with fail
          go_ret
          exact ⟨rfl, rfl⟩
      · rw [if_neg h1]
        have h1' : (s.size : Int) ≤ long := by omega
        by_cases h0 : s.size = 0
        · rw [if_pos h0]
          have h0' : (s.size : Int) = 0 := by omega
          clear h1 h0
          rcases hk with rfl | rfl
          all_goals
            go_enter Tryz.func102, Tryz.ntmps102
            go_wp2_with fail
            refine (HO.out _).mono ?_
            rintro e w' ⟨rfl, rfl⟩
            go_wp2_with fail
            go_ret
            exact ⟨rfl, rfl⟩
        · rw [if_neg h0]
          have h0' : 1 ≤ (s.size : Int) := by omega
          clear h1 h0
          rcases hk with rfl | rfl
          all_goals
            go_enter Tryz.func102, Tryz.ntmps102
            go_wp2_with fail
            refine (HO.out _).mono ?_
            rintro e w' ⟨rfl, rfl⟩
            go_wp2_with fail
            go_ret
            exact ⟨rfl, rfl⟩
    · rw [if_neg hk]
      have k2 : ¬ kind = 2 := fun h => hk (.inl h)
      have k4 : ¬ kind = 4 := fun h => hk (.inr h)
      clear hk
      by_cases h1 : (s.size : Int) = long
      · rw [if_neg (by simpa using h1)]
        have hx : ((s.size : Int) != long) = false := by simpa using h1
        clear h1
        go_enter Tryz.func102, Tryz.ntmps102
        go_wp2_with fail
        refine (HO.out _).mono ?_
        rintro e w' ⟨rfl, rfl⟩
        go_wp2_with fail
        go_ret
        exact ⟨rfl, rfl⟩
      · rw [if_pos h1]
        have hx : ((s.size : Int) != long) = true := by simpa using h1
        clear h1
        go_enter Tryz.func102, Tryz.ntmps102
        go_wp2_with fail
        refine (HO.out _).mono ?_
        rintro e w' ⟨rfl, rfl⟩
        go_wp2_with fail
        go_ret
        exact ⟨rfl, rfl⟩
end Go.Proofs.YtajhgejhdalobaaGreatDoor
namespace Go.Proofs.YtajhgejhdalobaaGreatDoor
open Go.RowKit

def FldR : Rec Fld := ⟨2, fun f => [.int .i64 f.n, .string f.v], fun _ => rfl, fun f u hu => by simp at hu; rcases hu with rfl | rfl <;> rfl⟩
theorem fldK : FldR.k = 2 := rfl
theorem fld_cells {w : World} {ao : Option Addr} {xs : List Fld} (h : RowRd FldR w ao xs) {i : Nat} (hi : i < xs.length) :
    ∃ b off, ao = some ⟨b, off, none⟩ ∧ b < w.heap.size ∧ w.cell? ⟨b, off + i * 2, none⟩ = some (.int .i64 xs[i].n) ∧ w.cell? ⟨b, off + i * 2 + 1, none⟩ = some (.string xs[i].v) := by
  obtain ⟨b, off, e, hb, h3⟩ := h.at' i hi
  exact ⟨b, off, e, hb, h3 0 _ rfl, h3 1 _ rfl⟩
structure SmallM (t : ByteArray) (l : List Fld) : Prop where
  t : t.size ≤ maxLen
  v : ∀ f ∈ l, f.v.size ≤ maxLen
  n : l.length ≤ maxLen
def RightP (t : ByteArray) (l : List Fld) (w : World) (e : Ending) (w' : World) : Prop := e = .returned (.int .i64 (rightM t l)) ∧ Fr noBlock w w'
set_option maxRecDepth 100000 in
set_option maxHeartbeats 1600000 in
theorem right_any (t : ByteArray) {ao : Option Addr} {l : List Fld} {w : World} (h : RowRd FldR w ao l) (cap : Nat) (hs : SmallM t l) : Calls Tryz.prog 41 #[.agg #[.string t, .slice ao l.length cap]] w (RightP t l w) := by
  have HR := Lib.hid h
  have Ht := Lib.hid hs.t
  have Hv := Lib.hid hs.v
  have hn := hs.n
  unfold maxLen at hn
  obtain ⟨res, hres⟩ : ∃ r, rightM t l = r := ⟨_, rfl⟩
  unfold RightP
  rw [hres]
  obtain ⟨e0, he0⟩ : ∃ e, valueE (bl t) 1 4 = e := ⟨_, rfl⟩
  have H0 := Lib.hid (show (e0 = 0 → res = rightF 0 (l.drop 0)) ∧ (e0 ≠ 0 → res = e0) by
    unfold rightM at hres
    rw [he0] at hres
    by_cases hz : e0 = 0
    · rw [if_neg (by simpa using hz)] at hres
      exact ⟨fun _ => hres.symm, fun h => absurd hz h⟩
    · rw [if_pos hz] at hres
      exact ⟨fun h => absurd h hz, fun _ => hres.symm⟩)
  have HV0 := Lib.hid (fun W => value_any t 1 4 W hs.t (by omega))
  rw [he0] at HV0
  clear h hs hres he0
  go_enter Tryz.func41, Tryz.ntmps41
  go_wp2_with fail
  refine (HV0.out _).mono ?_
  rintro e w1 ⟨rfl, rfl⟩
  have hf0 := (Fr.refl noBlock w).alloc (.cells #[.string t, .slice ao l.length cap] 25)
  have HF0 := Lib.hid hf0
  clear hf0
  go_wp2_with fail
  go_loopw [3, 4, 16] (fun s3 s4 s16 wr => ∃ (i : Nat) (last err : Int), i ≤ l.length ∧ s16 = .int .i64 i ∧ s4 = .int .i64 last ∧ s3 = .int .i64 err ∧ Hid (Fr noBlock w wr) ∧ Hid ((err = 0 → res = rightF last (l.drop i)) ∧ (err ≠ 0 → res = err))) (fun _ _ s16 _ => l.length - (intOf s16).toNat)
  case atStart => exact ⟨0, 0, e0, Nat.zero_le _, rfl, rfl, rfl, HF0, H0⟩
  case round =>
    obtain ⟨i, last, err, hi, rfl, rfl, rfl, HF, HI⟩ := hrel
    by_cases hlt : i < l.length
    · have q1 : (i : Int) < (l.length : Int) := by omega
      have q0 : (0 : Int) ≤ (i : Int) := by omega
      have hi' : i + 1 ≤ l.length := hlt
      obtain ⟨b, off, rfl, hb, y0, y1⟩ := fld_cells (HR.out.fr0 HF.out) hlt
      have hdr : l.drop i = l[i] :: l.drop (i + 1) := (List.drop_eq_getElem_cons hlt)
      have hvs := Hv.out l[i] (List.getElem_mem hlt)
      generalize l[i] = f at *
      obtain ⟨fn, fv⟩ := f
      simp only at y0 y1 hvs
      by_cases hz : err = 0
      · subst hz
        have hR := HI.out.1 rfl
        rw [hdr] at hR
        unfold rightF at hR
        simp only at hR
        obtain ⟨kd, hkd⟩ : ∃ x, kindOf fn = x := ⟨_, rfl⟩
        obtain ⟨lg, hlg⟩ : ∃ x, longOf fn = x := ⟨_, rfl⟩
        obtain ⟨ok, hok⟩ : ∃ x, fmtOk fn = x := ⟨_, rfl⟩
        have HFm := Lib.hid (fun W => format_any fn W)
        unfold FmtP at HFm
        rw [hkd, hlg, hok] at hR HFm
        have hlim : ok = true → 0 ≤ lg ∧ lg ≤ 9223372036854775807 := fun h => by
          have := fmt_facts (hok.trans h)
          have h1 := this.l1
          have h9 := this.l9
          rw [hlg] at h1 h9
          omega
        obtain ⟨ev, hev⟩ : ∃ e, valueE (bl fv) kd lg = e := ⟨_, rfl⟩
        rw [hev] at hR
        have HVv := Lib.hid (fun h W => value_any fv kd lg W hvs (hlim h))
        rw [hev] at HVv
        have HRes := Lib.hid hR
        have HF6 := Lib.hid (HF.out.alloc (.cells #[.int .i64 fn, .string fv] 31))
        clear hkd hlg hok hev hlim hR hdr hlt HI hvs
        have hfz : fn ≤ last ∨ last < fn := by omega
        rcases hfz with hle | hgt
        · have HRes2 := Lib.hid (show res = 13 from HRes.out.trans (if_pos (.inl hle)))
          clear HRes
          go_wp2_with fail
          refine (HFm.out _).mono ?_
          rintro e w2 ⟨rfl, rfl⟩
          go_wp2_with fail
          go_ret
          exact ⟨ret_int HRes2.out.symm, HF6.out⟩
        · cases ok with
          | false =>
            have HRes2 := Lib.hid (show res = 13 from HRes.out.trans (if_pos (.inr rfl)))
            clear HRes
            go_wp2_with fail
            refine (HFm.out _).mono ?_
            rintro e w2 ⟨rfl, rfl⟩
            go_wp2_with fail
            go_ret
            exact ⟨ret_int HRes2.out.symm, HF6.out⟩
          | true =>
            have hRes2 : res = if ev ≠ 0 then ev else rightF fn (l.drop (i + 1)) := HRes.out.trans (if_neg (by simp; omega))
            have HN := Lib.hid (show (ev = 0 → res = rightF fn (l.drop (i + 1))) ∧ (ev ≠ 0 → res = ev) from ⟨fun h => hRes2.trans (if_neg (by simpa using h)), fun h => hRes2.trans (if_pos h)⟩)
            have HV2 := Lib.hid (HVv.out rfl)
            clear hRes2 HRes HVv
            go_wp2_with fail
            refine (HFm.out _).mono ?_
            rintro e w2 ⟨rfl, rfl⟩
            go_upto_region 11 with (fail)
            refine wp_at (φ := fun W => Fr noBlock w W ∧ W.cell? ⟨wr.heap.size, 0, none⟩ = some (.int .i64 fn) ∧ W.cell? ⟨wr.heap.size, 1, none⟩ = some (.string fv)) ⟨HF6.out, by simp, by simp⟩ ?_
            rintro w5 ⟨f5, z0, z1⟩
            have HF5 := Lib.hid f5
            have HZ := Lib.hid (And.intro z0 z1)
            clear f5 z0 z1
            go_region_held3 (fun W => W.cell? ⟨wr.heap.size, 0, none⟩ = some (.int .i64 fn) ∧ W.cell? ⟨wr.heap.size, 1, none⟩ = some (.string fv))
              (exact HZ.out)
              ((go_at_call 102; (with_reducible refine (HV2.out _).mono ?_); rintro e w7 ⟨rfl, rfl⟩))
            go_wp2_with fail
            go_roundw
            case rel => exact ⟨i + 1, fn, ev, hi', by go_num, rfl, rfl, Lib.hid HF5.out.drew, HN⟩
            case measure => simp [intOf]; omega
      · have hb0 : (err != 0) = true := by simpa using hz
        have HRes2 := Lib.hid (HI.out.2 hz)
        have HF6 := Lib.hid (HF.out.alloc (.cells #[.int .i64 fn, .string fv] 31))
        clear hz HI hdr
        go_wp2_with fail
        go_ret
        exact ⟨ret_int HRes2.out.symm, HF6.out⟩
    · have q1 : (l.length : Int) ≤ (i : Int) := by omega
      have HRes := Lib.hid (show res = err by
        by_cases hz : err = 0
        · have := HI.out.1 hz
          rw [List.drop_eq_nil_of_le (by omega)] at this
          rw [hz]
          exact this
        · exact HI.out.2 hz)
      clear hlt HI
      go_wp2_with fail
      go_ret
      exact ⟨ret_int HRes.out.symm, HF.out⟩
end Go.Proofs.YtajhgejhdalobaaGreatDoor
namespace Go.Proofs.YtajhgejhdalobaaGreatDoor
open Go.RowKit

theorem infoFld : (Tryz.prog.info? 31).map (fun i => (i.zero, i.size, i.bytes)) = some (some (.agg #[.int .i64 0, .string ⟨#[]⟩]), 2, 24) := by kernel_rfl
theorem el_fld : Elem Tryz.prog 23 31 FldR.k 24 := Elem.mk' Tryz.underlying23 infoFld (by decide) rfl
theorem set_cells {wr : World} {p : Nat} {a b : Value} {T : TypeId} {f : Nat × Nat} (h : wr.heap[p]? = some (.cells #[a, b] T f)) (u v : Value) : (wr.setCell ⟨p, 0, none⟩ u).cell? ⟨p, 0, none⟩ = some u ∧ ((wr.setCell ⟨p, 0, none⟩ u).setCell ⟨p, 1, none⟩ v).cell? ⟨p, 0, none⟩ = some u ∧ ((wr.setCell ⟨p, 0, none⟩ u).setCell ⟨p, 1, none⟩ v).cell? ⟨p, 1, none⟩ = some v := by
  have h1 := heap_set_eq (i := 0) (u := u) h
  have h2 := heap_set_eq (i := 1) (u := v) h1
  refine ⟨?_, ?_, ?_⟩
  · have := cell_of h1 0
    simpa using this
  · have := cell_of h2 0
    simpa using this
  · have := cell_of h2 1
    simpa using this
end Go.Proofs.YtajhgejhdalobaaGreatDoor
namespace Go.Proofs.YtajhgejhdalobaaGreatDoor
open Go.RowKit

abbrev Fld.val (f : Fld) : Value := .agg #[.int .i64 f.n, .string f.v]
theorem put1_any (f : Fld) (n : Int) (B : Nat) (w : World) (hc : w.cell? ⟨B, 0, none⟩ = some (.int .i64 n)) (hB : B < w.heap.size) :
    Calls Tryz.prog 182 #[f.val, .pointer (some ⟨B, 0, none⟩)] w fun e w' => e = .returned (.bool (decide (n < f.n))) ∧ Fr noBlock w w' := by
  have hf0 := (Fr.refl noBlock w).alloc (.cells #[.int .i64 f.n, .string f.v] 31)
  have hne : B ≠ w.heap.size := by omega
  go_enter Tryz.func182, Tryz.ntmps182
  go_wp2
  go_ret
  exact ⟨rfl, hf0⟩
/-- what the second closure holds: how many came, the number, where it was put -/
structure Del2 (W : World) (A N K : Nat) (a n k : Int) : Prop where
  a : W.heap[A]? = some (.cells #[.int .i64 a] 3 (0, 0))
  n : W.heap[N]? = some (.cells #[.int .i64 n] 3 (0, 0))
  k : W.heap[K]? = some (.cells #[.int .i64 k] 3 (0, 0))
theorem Del2.fr {S : Nat → Prop} {W W' : World} {A N K : Nat} {a n k : Int} (h : Del2 W A N K a n k) (f : Fr S W W') (h1 : ¬ S A) (h2 : ¬ S N) (h3 : ¬ S K) : Del2 W' A N K a n k := ⟨f.obj h.a h1, f.obj h.n h2, f.obj h.k h3⟩
def Put2P (A N K : Nat) (fn a n k : Int) (W : World) (e : Ending) (w' : World) : Prop := e = .returned (.bool (decide (fn = n) && !decide (a = k))) ∧ Del2 w' A N K (a + 1) n k ∧ Fr (fun b => b = A) W w'
set_option maxHeartbeats 800000 in
theorem put2_any (f : Fld) {A N K : Nat} {a n k : Int} {W : World} (h : Del2 W A N K a n k) (hAN : A ≠ N) (hAK : A ≠ K) (ha : 0 ≤ a ∧ a ≤ 140737488355328) (hk : 0 ≤ k ∧ k ≤ 140737488355328) :
    Calls Tryz.prog 185 #[f.val, .pointer (some ⟨A, 0, none⟩), .pointer (some ⟨N, 0, none⟩), .pointer (some ⟨K, 0, none⟩)] W (Put2P A N K f.n a n k W) := by
  obtain ⟨fn, fv⟩ := f
  have hb := heap_set_eq (i := 0) (u := .int .i64 (a + 1)) h.a
  have HD := Lib.hid (show Del2 ((W.setCell ⟨A, 0, none⟩ (.int .i64 (a + 1))).alloc (.cells #[.int .i64 fn, .string fv] 31)) A N K (a + 1) n k from
    ⟨heap_old _ (by simpa using hb), heap_old _ (heap_set_ne h.n (Ne.symm hAN)), heap_old _ (heap_set_ne h.k (Ne.symm hAK))⟩)
  have HF := Lib.hid (((Fr.refl (fun b => b = A) W).setCell (p := ⟨A, 0, none⟩) (.inl rfl) (.int .i64 (a + 1))).alloc (.cells #[.int .i64 fn, .string fv] 31))
  have c1 := cell_of h.a 0
  have c2 := cell_of h.n 0
  have c3 := cell_of h.k 0
  have z1 := free_of h.a 0
  simp at c1 c2 c3
  have l1 := heap_lt h.a
  have l2 := heap_lt h.n
  have l3 := heap_lt h.k
  have d1 : A ≠ W.heap.size := by omega
  have d2 : N ≠ W.heap.size := by omega
  have d3 : K ≠ W.heap.size := by omega
  have hNA : N ≠ A := Ne.symm hAN
  have hKA : K ≠ A := Ne.symm hAK
  obtain ⟨a0, a1⟩ := ha
  obtain ⟨k0, k1⟩ := hk
  have hw1 : IntKind.i64.wrap (a + 1) = a + 1 := IntWalk.i64_in _ (by omega)
  have hw2 : IntKind.i64.wrap (k + 1) = k + 1 := IntWalk.i64_in _ (by omega)
  unfold Fld.val
  dsimp only
  clear hb h
  by_cases hn : fn = n
  · have hnb : (fn == n) = true := by simpa using hn
    have HE := Lib.hid (show Put2P A N K fn a n k W (.returned (.bool (a + 1 != k + 1))) ((W.setCell ⟨A, 0, none⟩ (.int .i64 (a + 1))).alloc (.cells #[.int .i64 fn, .string fv] 31)) from
      ⟨by congr 2; rw [decide_eq_true hn, Bool.true_and, Bool.eq_iff_iff]; simp, HD.out, HF.out⟩)
    clear hn
    go_enter Tryz.func185, Tryz.ntmps185
    go_wp2_with fail
    go_ret
    exact HE.out
  · have hnb : (fn == n) = false := by simpa using hn
    have HE := Lib.hid (show Put2P A N K fn a n k W (.returned (.bool false)) ((W.setCell ⟨A, 0, none⟩ (.int .i64 (a + 1))).alloc (.cells #[.int .i64 fn, .string fv] 31)) from
      ⟨by congr 2; rw [decide_eq_false hn]; rfl, HD.out, HF.out⟩)
    clear hn
    go_enter Tryz.func185, Tryz.ntmps185
    go_wp2_with fail
    go_ret
    exact HE.out
def IdxP (n : Nat) (p : Nat → Bool) (I : Nat → World → Prop) (e : Ending) (w' : World) : Prop :=
  (∃ i, i < n ∧ p i = true ∧ (∀ j, j < i → p j = false) ∧ e = .returned (.int .i64 (i : Int)) ∧ I (i + 1) w') ∨ ((∀ j, j < n → p j = false) ∧ e = .returned (.int .i64 (-1)) ∧ I n w')
set_option maxRecDepth 100000 in
set_option maxHeartbeats 800000 in
theorem indexF_any {ao : Option Addr} (cap : Nat) (xs : List Fld) (g : Nat) (lb : Array Value) (eg : ∀ args w, (callFunc g args).run Tryz.prog w = .ok (.enter g args) w) (p : Nat → Bool) (I : Nat → World → Prop) (hrow : ∀ i W, I i W → RowRd FldR W ao xs)
    (hp : ∀ (i : Nat) (hi : i < xs.length) (W : World), I i W → Calls Tryz.prog g (#[xs[i].val] ++ lb) W fun e w' => e = .returned (.bool (p i)) ∧ I (i + 1) w') (hl : xs.length ≤ maxLen) (w : World) (h0 : I 0 w) :
    Calls Tryz.prog 181 #[.slice ao xs.length cap, .func (.func g) #[] lb] w (IdxP xs.length p I) := by
  unfold maxLen at hl
  have Hp := Lib.hid hp
  have Hrow := Lib.hid hrow
  have H0 := Lib.hid h0
  clear hp hrow h0
  go_enter Tryz.func181, Tryz.ntmps181
  go_wp2_with fail
  go_loopw [5, 8] (fun s5 s8 wr => ∃ k : Nat, k ≤ xs.length ∧ s8 = .int .i64 k ∧ Hid (I k wr) ∧ Hid (∀ j, j < k → p j = false)) (fun _ s8 _ => xs.length - (intOf s8).toNat)
  case atStart => exact ⟨0, Nat.zero_le _, rfl, H0, Lib.hid (fun j hj => absurd hj (Nat.not_lt_zero _))⟩
  case round =>
    obtain ⟨k, hk, rfl, hI, hn⟩ := hrel
    by_cases hlt : k < xs.length
    · obtain ⟨b, off, rfl, hb, c0, c1⟩ := fld_cells (Hrow.out _ _ hI.out) hlt
      have h1 : (k : Int) < (xs.length : Int) := by omega
      have h0' : (0 : Int) ≤ (k : Int) := by omega
      have hk1 : k + 1 ≤ xs.length := hlt
      have hcall := Hp.out k hlt wr hI.out
      have Hlt := Lib.hid hlt
      cases hpk : p k with
      | true =>
        rw [hpk] at hcall
        have Hc := Lib.hid hcall
        have Hpk := Lib.hid hpk
        clear hcall hpk
        generalize xs[k] = x at *
        clear hlt
        go_wp2_with fail
        refine Hc.out.mono ?_
        rintro e w' ⟨rfl, hI'⟩
        have HI' := Lib.hid hI'
        clear hI'
        go_wp2_with fail
        go_ret
        exact .inl ⟨k, Hlt.out, Hpk.out, hn.out, rfl, HI'.out⟩
      | false =>
        rw [hpk] at hcall
        have Hc := Lib.hid hcall
        have Hn := Lib.hid (show ∀ j, j < k + 1 → p j = false from fun j hj => by
          by_cases e : j = k
          · rw [e]; exact hpk
          · exact hn.out j (by omega))
        clear hcall hpk
        generalize xs[k] = x at *
        clear hlt
        go_wp2_with fail
        refine Hc.out.mono ?_
        rintro e w' ⟨rfl, hI'⟩
        have HI' := Lib.hid hI'
        clear hI'
        go_wp2_with fail
        go_roundw
        case rel => exact ⟨k + 1, hk1, by go_num, HI', Hn⟩
        case measure => simp [intOf]; omega
    · have h1 : (xs.length : Int) ≤ (k : Int) := by omega
      have e : k = xs.length := by omega
      subst e
      clear hlt
      go_wp2_with fail
      go_ret
      exact .inr ⟨hn.out, rfl, hI.out⟩
/-- a clone of fields -/
def FCloneP (l : List Fld) (w : World) (e : Ending) (w' : World) : Prop := ∃ s : SV, e = .returned s.val ∧ s.n = l.length ∧ RowAt 31 FldR w' s.val l ∧ Fr noBlock w w' ∧ ∀ k, s.val.ownBlock = some k → w.heap.size ≤ k
set_option maxHeartbeats 800000 in
theorem fclone_any {w : World} {ao : Option Addr} {l : List Fld} (h : RowRd FldR w ao l) (cap : Nat) (hb : l.length * 24 ≤ 140737488355328) (hno : ao = none → cap = 0) : Calls Tryz.prog 180 #[.slice ao l.length cap] w (FCloneP l w) := by
  have q := fun (w : World) (a : Option Addr) (n c : Nat) => Lib.run_eql_slice_nil (P := Tryz.prog) w 23 31 a n c 0 0 Tryz.underlying23
  have H := Lib.hid h
  cases ao with
  | none =>
    have hl : l = [] := by
      cases l with
      | nil => rfl
      | cons f r =>
        obtain ⟨b, off, e, _⟩ := fld_cells h (i := 0) (by simp)
        cases e
    subst hl
    have hc := hno rfl
    subst hc
    clear h hno
    go_enter Tryz.func180, Tryz.ntmps180
    go_wp2_with fail
    go_ret
    exact ⟨⟨none, 0, 0⟩, rfl, rfl, RowAt.nil, Fr.refl _ _, fun k hk => by cases hk⟩
  | some a =>
    clear h hno
    go_enter Tryz.func180, Tryz.ntmps180
    go_wp2_with (at_builtin; apply stop_here)
    refine ⟨?_, trivial⟩
    refine wpList_app rfl _ _ rfl el_fld (v := .slice (some ⟨w.heap.size, 0, none⟩) 0 0) [] l l rfl w.heap.size 0 l.length rfl rfl (World.ownsRow_made w #[] 0 (Nat.le_refl _) (Nat.zero_le _) rfl) rfl (H.out.fr0 ((Fr.refl _ _).alloc _)) rfl (by unfold maxLen; omega) (by omega) (by simp) ?_
    intro ao2 cap2 w2 o2 g2 _
    go_frame
    have O2 := Lib.hid o2
    have hf := (((Fr.refl noBlock w).alloc (.cells #[] 31)).grown g2 (fun k hk => by simp [Value.ownBlock] at hk; subst hk; exact .inr (Nat.le_refl _)))
    have Hf := Lib.hid hf
    clear o2 g2 hf
    go_wp2_with fail
    go_ret
    exact ⟨⟨ao2, l.length, cap2⟩, rfl, rfl, RowAt.of_own O2.out rfl, Hf.out, fun k hk => (O2.out.lt k hk).1⟩
end Go.Proofs.YtajhgejhdalobaaGreatDoor
