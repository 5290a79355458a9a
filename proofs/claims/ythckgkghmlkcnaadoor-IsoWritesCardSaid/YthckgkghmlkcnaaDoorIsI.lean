/-
  THE WALK of the document's Format.
-/
import Derived.Test.YthckgkghmlkcnaaDoorIsA
namespace Go.Proofs.YthckgkghmlkcnaaDoor
open Go.RowKit

set_option maxRecDepth 100000 in
set_option maxHeartbeats 3200000 in
theorem rformat_any (n : Int) (w : World) : Calls Tryd.prog 26 #[.int .i64 n] w (FmtP n w) := by
  by_cases h2 : n = 2
  · subst h2
    show Calls Tryd.prog 26 _ w (fun e w' => e = .returned (.tuple #[.int .i64 (kindOf 2), .int .i64 (longOf 2), .bool (fmtOk 2)]) ∧ w = w')
    rw [show kindOf 2 = (fmt 2).1 from rfl, show longOf 2 = (fmt 2).2.1 from rfl, show fmtOk 2 = (fmt 2).2.2 from rfl]
    simp only [fmt]
    go_enter Tryd.func26, Tryd.ntmps26
    go_wp2_with fail
    go_ret3
    exact ⟨rfl, rfl⟩
  by_cases h3 : n = 3
  · subst h3
    show Calls Tryd.prog 26 _ w (fun e w' => e = .returned (.tuple #[.int .i64 (kindOf 3), .int .i64 (longOf 3), .bool (fmtOk 3)]) ∧ w = w')
    rw [show kindOf 3 = (fmt 3).1 from rfl, show longOf 3 = (fmt 3).2.1 from rfl, show fmtOk 3 = (fmt 3).2.2 from rfl]
    simp only [fmt]
    go_enter Tryd.func26, Tryd.ntmps26
    go_wp2_with fail
    go_ret3
    exact ⟨rfl, rfl⟩
  by_cases h11 : n = 11
  · subst h11
    show Calls Tryd.prog 26 _ w (fun e w' => e = .returned (.tuple #[.int .i64 (kindOf 11), .int .i64 (longOf 11), .bool (fmtOk 11)]) ∧ w = w')
    rw [show kindOf 11 = (fmt 11).1 from rfl, show longOf 11 = (fmt 11).2.1 from rfl, show fmtOk 11 = (fmt 11).2.2 from rfl]
    simp only [fmt]
    go_enter Tryd.func26, Tryd.ntmps26
    go_wp2_with fail
    go_ret3
    exact ⟨rfl, rfl⟩
  by_cases h12 : n = 12
  · subst h12
    show Calls Tryd.prog 26 _ w (fun e w' => e = .returned (.tuple #[.int .i64 (kindOf 12), .int .i64 (longOf 12), .bool (fmtOk 12)]) ∧ w = w')
    rw [show kindOf 12 = (fmt 12).1 from rfl, show longOf 12 = (fmt 12).2.1 from rfl, show fmtOk 12 = (fmt 12).2.2 from rfl]
    simp only [fmt]
    go_enter Tryd.func26, Tryd.ntmps26
    go_wp2_with fail
    go_ret3
    exact ⟨rfl, rfl⟩
  by_cases h4 : n = 4
  · subst h4
    show Calls Tryd.prog 26 _ w (fun e w' => e = .returned (.tuple #[.int .i64 (kindOf 4), .int .i64 (longOf 4), .bool (fmtOk 4)]) ∧ w = w')
    rw [show kindOf 4 = (fmt 4).1 from rfl, show longOf 4 = (fmt 4).2.1 from rfl, show fmtOk 4 = (fmt 4).2.2 from rfl]
    simp only [fmt]
    go_enter Tryd.func26, Tryd.ntmps26
    go_wp2_with fail
    go_ret3
    exact ⟨rfl, rfl⟩
  by_cases h7 : n = 7
  · subst h7
    show Calls Tryd.prog 26 _ w (fun e w' => e = .returned (.tuple #[.int .i64 (kindOf 7), .int .i64 (longOf 7), .bool (fmtOk 7)]) ∧ w = w')
    rw [show kindOf 7 = (fmt 7).1 from rfl, show longOf 7 = (fmt 7).2.1 from rfl, show fmtOk 7 = (fmt 7).2.2 from rfl]
    simp only [fmt]
    go_enter Tryd.func26, Tryd.ntmps26
    go_wp2_with fail
    go_ret3
    exact ⟨rfl, rfl⟩
  by_cases h13 : n = 13
  · subst h13
    show Calls Tryd.prog 26 _ w (fun e w' => e = .returned (.tuple #[.int .i64 (kindOf 13), .int .i64 (longOf 13), .bool (fmtOk 13)]) ∧ w = w')
    rw [show kindOf 13 = (fmt 13).1 from rfl, show longOf 13 = (fmt 13).2.1 from rfl, show fmtOk 13 = (fmt 13).2.2 from rfl]
    simp only [fmt]
    go_enter Tryd.func26, Tryd.ntmps26
    go_wp2_with fail
    go_ret3
    exact ⟨rfl, rfl⟩
  by_cases h14 : n = 14
  · subst h14
    show Calls Tryd.prog 26 _ w (fun e w' => e = .returned (.tuple #[.int .i64 (kindOf 14), .int .i64 (longOf 14), .bool (fmtOk 14)]) ∧ w = w')
    rw [show kindOf 14 = (fmt 14).1 from rfl, show longOf 14 = (fmt 14).2.1 from rfl, show fmtOk 14 = (fmt 14).2.2 from rfl]
    simp only [fmt]
    go_enter Tryd.func26, Tryd.ntmps26
    go_wp2_with fail
    go_ret3
    exact ⟨rfl, rfl⟩
  by_cases h18 : n = 18
  · subst h18
    show Calls Tryd.prog 26 _ w (fun e w' => e = .returned (.tuple #[.int .i64 (kindOf 18), .int .i64 (longOf 18), .bool (fmtOk 18)]) ∧ w = w')
    rw [show kindOf 18 = (fmt 18).1 from rfl, show longOf 18 = (fmt 18).2.1 from rfl, show fmtOk 18 = (fmt 18).2.2 from rfl]
    simp only [fmt]
    go_enter Tryd.func26, Tryd.ntmps26
    go_wp2_with fail
    go_ret3
    exact ⟨rfl, rfl⟩
  by_cases h22 : n = 22
  · subst h22
    show Calls Tryd.prog 26 _ w (fun e w' => e = .returned (.tuple #[.int .i64 (kindOf 22), .int .i64 (longOf 22), .bool (fmtOk 22)]) ∧ w = w')
    rw [show kindOf 22 = (fmt 22).1 from rfl, show longOf 22 = (fmt 22).2.1 from rfl, show fmtOk 22 = (fmt 22).2.2 from rfl]
    simp only [fmt]
    go_enter Tryd.func26, Tryd.ntmps26
    go_wp2_with fail
    go_ret3
    exact ⟨rfl, rfl⟩
  by_cases h49 : n = 49
  · subst h49
    show Calls Tryd.prog 26 _ w (fun e w' => e = .returned (.tuple #[.int .i64 (kindOf 49), .int .i64 (longOf 49), .bool (fmtOk 49)]) ∧ w = w')
    rw [show kindOf 49 = (fmt 49).1 from rfl, show longOf 49 = (fmt 49).2.1 from rfl, show fmtOk 49 = (fmt 49).2.2 from rfl]
    simp only [fmt]
    go_enter Tryd.func26, Tryd.ntmps26
    go_wp2_with fail
    go_ret3
    exact ⟨rfl, rfl⟩
  by_cases h70 : n = 70
  · subst h70
    show Calls Tryd.prog 26 _ w (fun e w' => e = .returned (.tuple #[.int .i64 (kindOf 70), .int .i64 (longOf 70), .bool (fmtOk 70)]) ∧ w = w')
    rw [show kindOf 70 = (fmt 70).1 from rfl, show longOf 70 = (fmt 70).2.1 from rfl, show fmtOk 70 = (fmt 70).2.2 from rfl]
    simp only [fmt]
    go_enter Tryd.func26, Tryd.ntmps26
    go_wp2_with fail
    go_ret3
    exact ⟨rfl, rfl⟩
  by_cases h25 : n = 25
  · subst h25
    show Calls Tryd.prog 26 _ w (fun e w' => e = .returned (.tuple #[.int .i64 (kindOf 25), .int .i64 (longOf 25), .bool (fmtOk 25)]) ∧ w = w')
    rw [show kindOf 25 = (fmt 25).1 from rfl, show longOf 25 = (fmt 25).2.1 from rfl, show fmtOk 25 = (fmt 25).2.2 from rfl]
    simp only [fmt]
    go_enter Tryd.func26, Tryd.ntmps26
    go_wp2_with fail
    go_ret3
    exact ⟨rfl, rfl⟩
  by_cases h32 : n = 32
  · subst h32
    show Calls Tryd.prog 26 _ w (fun e w' => e = .returned (.tuple #[.int .i64 (kindOf 32), .int .i64 (longOf 32), .bool (fmtOk 32)]) ∧ w = w')
    rw [show kindOf 32 = (fmt 32).1 from rfl, show longOf 32 = (fmt 32).2.1 from rfl, show fmtOk 32 = (fmt 32).2.2 from rfl]
    simp only [fmt]
    go_enter Tryd.func26, Tryd.ntmps26
    go_wp2_with fail
    go_ret3
    exact ⟨rfl, rfl⟩
  by_cases h37 : n = 37
  · subst h37
    show Calls Tryd.prog 26 _ w (fun e w' => e = .returned (.tuple #[.int .i64 (kindOf 37), .int .i64 (longOf 37), .bool (fmtOk 37)]) ∧ w = w')
    rw [show kindOf 37 = (fmt 37).1 from rfl, show longOf 37 = (fmt 37).2.1 from rfl, show fmtOk 37 = (fmt 37).2.2 from rfl]
    simp only [fmt]
    go_enter Tryd.func26, Tryd.ntmps26
    go_wp2_with fail
    go_ret3
    exact ⟨rfl, rfl⟩
  by_cases h38 : n = 38
  · subst h38
    show Calls Tryd.prog 26 _ w (fun e w' => e = .returned (.tuple #[.int .i64 (kindOf 38), .int .i64 (longOf 38), .bool (fmtOk 38)]) ∧ w = w')
    rw [show kindOf 38 = (fmt 38).1 from rfl, show longOf 38 = (fmt 38).2.1 from rfl, show fmtOk 38 = (fmt 38).2.2 from rfl]
    simp only [fmt]
    go_enter Tryd.func26, Tryd.ntmps26
    go_wp2_with fail
    go_ret3
    exact ⟨rfl, rfl⟩
  by_cases h39 : n = 39
  · subst h39
    show Calls Tryd.prog 26 _ w (fun e w' => e = .returned (.tuple #[.int .i64 (kindOf 39), .int .i64 (longOf 39), .bool (fmtOk 39)]) ∧ w = w')
    rw [show kindOf 39 = (fmt 39).1 from rfl, show longOf 39 = (fmt 39).2.1 from rfl, show fmtOk 39 = (fmt 39).2.2 from rfl]
    simp only [fmt]
    go_enter Tryd.func26, Tryd.ntmps26
    go_wp2_with fail
    go_ret3
    exact ⟨rfl, rfl⟩
  by_cases h41 : n = 41
  · subst h41
    show Calls Tryd.prog 26 _ w (fun e w' => e = .returned (.tuple #[.int .i64 (kindOf 41), .int .i64 (longOf 41), .bool (fmtOk 41)]) ∧ w = w')
    rw [show kindOf 41 = (fmt 41).1 from rfl, show longOf 41 = (fmt 41).2.1 from rfl, show fmtOk 41 = (fmt 41).2.2 from rfl]
    simp only [fmt]
    go_enter Tryd.func26, Tryd.ntmps26
    go_wp2_with fail
    go_ret3
    exact ⟨rfl, rfl⟩
  by_cases h42 : n = 42
  · subst h42
    show Calls Tryd.prog 26 _ w (fun e w' => e = .returned (.tuple #[.int .i64 (kindOf 42), .int .i64 (longOf 42), .bool (fmtOk 42)]) ∧ w = w')
    rw [show kindOf 42 = (fmt 42).1 from rfl, show longOf 42 = (fmt 42).2.1 from rfl, show fmtOk 42 = (fmt 42).2.2 from rfl]
    simp only [fmt]
    go_enter Tryd.func26, Tryd.ntmps26
    go_wp2_with fail
    go_ret3
    exact ⟨rfl, rfl⟩
  by_cases h48 : n = 48
  · subst h48
    show Calls Tryd.prog 26 _ w (fun e w' => e = .returned (.tuple #[.int .i64 (kindOf 48), .int .i64 (longOf 48), .bool (fmtOk 48)]) ∧ w = w')
    rw [show kindOf 48 = (fmt 48).1 from rfl, show longOf 48 = (fmt 48).2.1 from rfl, show fmtOk 48 = (fmt 48).2.2 from rfl]
    simp only [fmt]
    go_enter Tryd.func26, Tryd.ntmps26
    go_wp2_with fail
    go_ret3
    exact ⟨rfl, rfl⟩
  by_cases h52 : n = 52
  · subst h52
    show Calls Tryd.prog 26 _ w (fun e w' => e = .returned (.tuple #[.int .i64 (kindOf 52), .int .i64 (longOf 52), .bool (fmtOk 52)]) ∧ w = w')
    rw [show kindOf 52 = (fmt 52).1 from rfl, show longOf 52 = (fmt 52).2.1 from rfl, show fmtOk 52 = (fmt 52).2.2 from rfl]
    simp only [fmt]
    go_enter Tryd.func26, Tryd.ntmps26
    go_wp2_with fail
    go_ret3
    exact ⟨rfl, rfl⟩
  by_cases h54 : n = 54
  · subst h54
    show Calls Tryd.prog 26 _ w (fun e w' => e = .returned (.tuple #[.int .i64 (kindOf 54), .int .i64 (longOf 54), .bool (fmtOk 54)]) ∧ w = w')
    rw [show kindOf 54 = (fmt 54).1 from rfl, show longOf 54 = (fmt 54).2.1 from rfl, show fmtOk 54 = (fmt 54).2.2 from rfl]
    simp only [fmt]
    go_enter Tryd.func26, Tryd.ntmps26
    go_wp2_with fail
    go_ret3
    exact ⟨rfl, rfl⟩
  by_cases h90 : n = 90
  · subst h90
    show Calls Tryd.prog 26 _ w (fun e w' => e = .returned (.tuple #[.int .i64 (kindOf 90), .int .i64 (longOf 90), .bool (fmtOk 90)]) ∧ w = w')
    rw [show kindOf 90 = (fmt 90).1 from rfl, show longOf 90 = (fmt 90).2.1 from rfl, show fmtOk 90 = (fmt 90).2.2 from rfl]
    simp only [fmt]
    go_enter Tryd.func26, Tryd.ntmps26
    go_wp2_with fail
    go_ret3
    exact ⟨rfl, rfl⟩
  by_cases h95 : n = 95
  · subst h95
    show Calls Tryd.prog 26 _ w (fun e w' => e = .returned (.tuple #[.int .i64 (kindOf 95), .int .i64 (longOf 95), .bool (fmtOk 95)]) ∧ w = w')
    rw [show kindOf 95 = (fmt 95).1 from rfl, show longOf 95 = (fmt 95).2.1 from rfl, show fmtOk 95 = (fmt 95).2.2 from rfl]
    simp only [fmt]
    go_enter Tryd.func26, Tryd.ntmps26
    go_wp2_with fail
    go_ret3
    exact ⟨rfl, rfl⟩
  by_cases h102 : n = 102
  · subst h102
    show Calls Tryd.prog 26 _ w (fun e w' => e = .returned (.tuple #[.int .i64 (kindOf 102), .int .i64 (longOf 102), .bool (fmtOk 102)]) ∧ w = w')
    rw [show kindOf 102 = (fmt 102).1 from rfl, show longOf 102 = (fmt 102).2.1 from rfl, show fmtOk 102 = (fmt 102).2.2 from rfl]
    simp only [fmt]
    go_enter Tryd.func26, Tryd.ntmps26
    go_wp2_with fail
    go_ret3
    exact ⟨rfl, rfl⟩
  · have hf : fmt n = (0, 0, false) := by
      unfold fmt
      repeat rw [if_neg (by omega)]
    have hk : kindOf n = 0 ∧ longOf n = 0 ∧ fmtOk n = false := by unfold kindOf longOf fmtOk; rw [hf]; exact ⟨rfl, rfl, rfl⟩
    unfold FmtP
    rw [hk.1, hk.2.1, hk.2.2]
    clear hf hk
    go_enter Tryd.func26, Tryd.ntmps26
    go_wp2_with fail
    go_ret3
    exact ⟨rfl, rfl⟩
end Go.Proofs.YthckgkghmlkcnaaDoor
