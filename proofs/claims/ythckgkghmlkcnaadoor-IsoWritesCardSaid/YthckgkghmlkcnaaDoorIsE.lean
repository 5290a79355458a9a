/-
  THE WALKS of the reader's count, value.
-/
import Derived.Deep.CutBlock
import Derived.Test.YthckgkghmlkcnaaDoorIsD
import Derived.Test.YthckgkghmlkcnaaDoorIsA
import Derived.Test.YthckgkghmlkcnaaDoorDgN
namespace Go.Proofs.YthckgkghmlkcnaaDoor
open Go.RowKit

set_option maxRecDepth 100000 in
set_option maxHeartbeats 800000 in
theorem number_nil (w : World) : Calls Tryd.prog 72 #[.string ⟨#[]⟩] w fun e w' => e = .returned (.tuple #[.int .i64 0, .int .i64 3]) ∧ w = w' := by
  have HL := Lib.hid (fun W => look_any ⟨#[]⟩ W (by decide))
  rw [show lookE ⟨#[]⟩ = 0 from rfl] at HL
  have HT := Lib.hid (fun W => Tryd.strings_TrimLeft_one ⟨#[]⟩ 48 (by decide) W)
  rw [show (⟨(Lib.trimLeftB (⟨#[]⟩ : ByteArray).data.toList 48).toArray⟩ : ByteArray) = ⟨#[]⟩ from rfl] at HT
  have hse : (⟨#[]⟩ : ByteArray).toList.isEmpty = true := by rw [ByteArray.toList_eq]; rfl
  go_enter Tryd.func72, Tryd.ntmps72
  go_wp2_with fail
  refine (HL.out _).mono ?_
  rintro e w1 ⟨rfl, rfl⟩
  go_wp2_with fail
  refine (HT.out _).mono ?_
  rintro e w1 ⟨rfl, rfl⟩
  go_wp2_with fail
  go_ret2
  exact ⟨rfl, rfl⟩
def countE (b : Bs) (k : Nat) (long : Int) : Int := if unpE b k ≠ 0 then unpE b k else if numB (unpS b k) = 0 then 4 else if long < numB (unpS b k) then 2 else 0
def countC (b : Bs) (k : Nat) : Nat := if unpE b k = 0 then numB (unpS b k) else 0
def CountP (w0 : World) (r : Nat) (b : Bs) (k : Nat) (long : Int) (w : World) (en : Ending) (w' : World) : Prop := en = .returned (.int .i64 (countC b k)) ∧ Rdr w0 r (b.drop (unpN b k)) (countE b k long) w' ∧ Fr (fun k => k = r) w w'
set_option maxRecDepth 100000 in
set_option maxHeartbeats 1600000 in
theorem count_any {w0 w : World} {r : Nat} {b : Bs} (h : Rdr w0 r b 0 w) (k : Nat) (hk : k = 2 ∨ k = 3) (long : Int) : Calls Tryd.prog 52 #[.pointer (some ⟨r, 0, none⟩), .int .i64 k, .int .i64 long] w (CountP w0 r b k long w) := by
  have HD := Lib.hid (rdigits_any h k (by omega) (by omega))
  unfold DigP at HD
  unfold CountP countE countC
  clear h
  by_cases hu : unpE b k = 0
  · obtain ⟨-, -, -, hdig, hlen⟩ := pack_unp hu
    have HN := Lib.hid (fun W => number_any (strB (unpS b k)) W hdig (by rw [strB_size]; omega) (by rw [strB_size]; omega))
    rw [show bl (strB (unpS b k)) = unpS b k from rfl] at HN
    have hT : unpT b k = unpS b k := by unfold unpT; rw [if_pos hu]
    rw [hu, hT] at HD
    have hc1000 := numB_lt (unpS b k) hdig
    have hc10 : 10 ^ (unpS b k).length ≤ 1000 := by rw [hlen]; rcases hk with rfl | rfl <;> decide
    rw [show (if unpE b k = 0 then numB (unpS b k) else 0) = numB (unpS b k) from if_pos hu, show (if unpE b k ≠ 0 then unpE b k else if numB (unpS b k) = 0 then 4 else if long < numB (unpS b k) then 2 else 0) = (if numB (unpS b k) = 0 then (4 : Int) else if long < numB (unpS b k) then 2 else 0) from if_neg (by rw [hu]; simp)]
    generalize strB (unpS b k) = sv at *
    generalize numB (unpS b k) = c at *
    generalize b.drop (unpN b k) = b2 at *
    have hcI : (c : Int) < 1000 := by omega
    clear hu hT hdig hlen hc1000 hc10 hk
    by_cases hc0 : c = 0
    · subst hc0
      rw [if_pos rfl]
      go_enter Tryd.func52, Tryd.ntmps52
      go_wp2_with fail
      refine HD.out.mono ?_
      rintro e w1 ⟨rfl, hR1, hF1⟩
      have H1 := Lib.hid (And.intro hR1 hF1)
      obtain ⟨ao, cap, c0, c1, z, -⟩ := hR1.cells
      have z1 := z 1
      have HS := Lib.hid (hR1.setE 4)
      clear hR1 hF1 z c0
      go_wp2_with fail
      refine (HN.out _).mono ?_
      rintro e w2 ⟨rfl, rfl⟩
      go_wp2_with fail
      go_ret
      exact ⟨rfl, HS.out.1, H1.out.2.trans HS.out.2 (fun k hk => .inl hk)⟩
    · rw [if_neg hc0]
      have hc0I : ((c : Int) == 0) = false := by simp; omega
      by_cases hl : long < (c : Int)
      · rw [if_pos hl]
        clear hc0
        go_enter Tryd.func52, Tryd.ntmps52
        go_wp2_with fail
        refine HD.out.mono ?_
        rintro e w1 ⟨rfl, hR1, hF1⟩
        have H1 := Lib.hid (And.intro hR1 hF1)
        obtain ⟨ao, cap, c0, c1, z, -⟩ := hR1.cells
        have z1 := z 1
        have HS := Lib.hid (hR1.setE 2)
        clear hR1 hF1 z c0
        go_wp2_with fail
        refine (HN.out _).mono ?_
        rintro e w2 ⟨rfl, rfl⟩
        go_wp2_with fail
        go_ret
        exact ⟨rfl, HS.out.1, H1.out.2.trans HS.out.2 (fun k hk => .inl hk)⟩
      · rw [if_neg hl]
        have hl' : (c : Int) ≤ long := by omega
        clear hc0 hl
        go_enter Tryd.func52, Tryd.ntmps52
        go_wp2_with fail
        refine HD.out.mono ?_
        rintro e w1 ⟨rfl, hR1, hF1⟩
        have H1 := Lib.hid (And.intro hR1 hF1)
        obtain ⟨ao, cap, c0, c1, z, -⟩ := hR1.cells
        clear hR1 hF1 z c0
        go_wp2_with fail
        refine (HN.out _).mono ?_
        rintro e w2 ⟨rfl, rfl⟩
        go_wp2_with fail
        go_ret
        exact ⟨rfl, H1.out.1, H1.out.2⟩
  · have hT : unpT b k = [] := by unfold unpT; rw [if_neg hu]
    have HN := Lib.hid (fun W => number_nil W)
    rw [hT] at HD
    rw [show (if unpE b k = 0 then numB (unpS b k) else 0) = 0 from if_neg hu, show (if unpE b k ≠ 0 then unpE b k else if numB (unpS b k) = 0 then 4 else if long < numB (unpS b k) then 2 else 0) = unpE b k from if_pos hu]
    generalize b.drop (unpN b k) = b2 at *
    generalize unpE b k = x at *
    have hx : (x != 0) = true := by simpa using hu
    clear hu hT hk
    go_enter Tryd.func52, Tryd.ntmps52
    go_wp2_with fail
    refine HD.out.mono ?_
    rintro e w1 ⟨rfl, hR1, hF1⟩
    have H1 := Lib.hid (And.intro hR1 hF1)
    obtain ⟨ao, cap, c0, c1, z, -⟩ := hR1.cells
    clear hR1 hF1 z c0
    rw [show strB [] = ⟨#[]⟩ from rfl]
    go_wp2_with fail
    refine (HN.out _).mono ?_
    rintro e w2 ⟨rfl, rfl⟩
    go_wp2_with fail
    go_ret
    exact ⟨rfl, H1.out.1, H1.out.2⟩
end Go.Proofs.YthckgkghmlkcnaaDoor
