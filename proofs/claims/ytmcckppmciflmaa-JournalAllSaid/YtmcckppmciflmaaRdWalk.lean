/-
  THE WALKS of the document's disk: goes, mod, end, Arm.
-/
import Derived.Test.YtmcckppmciflmaaRdAt
import Derived.Test.YtmcckppmciflmaaDkWalk
namespace Go.Proofs.Ytmcckppmciflmaa
open Go.RowKit

/-- the disk's cells of S, D, the size and the part stay -/
def GoesP (l : Nat) (d : DK) (F : Nat → Prop) (w : World) (e : Ending) (w' : World) : Prop := e = .returned (.bool d.gone) ∧ RDiskAt l d.cut w' F ∧ Step F F w w'
set_option maxHeartbeats 400000 in
theorem goes_any {l : Nat} {d : DK} {w : World} {F : Nat → Prop} (h : RDiskAt l d w F) : Calls Try.prog 67 #[.pointer (some ⟨l, 0, none⟩)] w (GoesP l d F w) := by
  obtain ⟨acts, part, sv, dv, ss, ps, hin⟩ := h
  obtain ⟨c0, c1, c2, c3, c4, c5, c6⟩ := hin.cells
  have z3 := free_of hin.box 3
  have z4 := free_of hin.box 4
  have z5 := free_of hin.box 5
  have Hin := Lib.hid hin
  have hgd := hin.good.cut
  have Hgd := Lib.hid hgd
  have Hne := Lib.hid hin.hl
  have Hbox := Lib.hid hin.box
  have hcells := hin.good.arm
  clear c0 c1 c2 c6
  cases ha : d.arm with
  | none =>
    rw [ha] at c4
    simp only [Option.isSome_none] at c4
    have Hd := Lib.hid (show d.cut = d by simp [DK.cut, ha])
    have Hg := Lib.hid (show d.gone = false by simp [DK.gone, ha])
    clear hin hgd ha hcells
    go_enter Try.func67, Try.ntmps67
    go_wp2
    go_ret
    exact ⟨ret_bool Hg.out.symm, by rw [Hd.out]; exact ⟨_, _, _, _, _, _, Hin.out⟩, Step.refl _ _⟩
  | some ap =>
    obtain ⟨a, p⟩ := ap
    obtain ⟨ea, ep⟩ := hin.arm a p ha
    obtain ⟨b1, _, _⟩ := hcells a p ha
    rw [ha] at c4
    simp only [Option.isSome_some] at c4
    rw [ea] at c5
    have Hep := Lib.hid ep
    have Hea := Lib.hid ea
    have Ha := Lib.hid ha
    clear hin hgd ha hcells ea ep
    cases a with
    | zero =>
      have Hd := Lib.hid (show d.cut = { d with off := true, arm := none } by simp [DK.cut, Ha.out])
      have Hg := Lib.hid (show d.gone = true by simp [DK.gone, Ha.out])
      have c5' : w.cell? ⟨l, 5, none⟩ = some (.int .i64 0) := c5
      clear c5
      go_enter Try.func67, Try.ntmps67
      go_wp2
      go_ret
      have hfr : Fr (fun k => k = l) w ((w.setCell ⟨l, 4, none⟩ (.bool false)).setCell ⟨l, 3, none⟩ (.bool true)) := ((Fr.refl (fun k => k = l) w).setCell (p := ⟨l, 4, none⟩) (.inl rfl) _).setCell (p := ⟨l, 3, none⟩) (.inl rfl) _
      have hbx := heap_set_eq (i := 3) (u := .bool true) (heap_set_eq (i := 4) (u := .bool false) Hbox.out)
      refine ⟨ret_bool Hg.out.symm, ?_, ⟨hfr.mono (fun k hk => by subst hk; exact Hne.out), fun _ hk => .inl hk⟩⟩
      rw [Hd.out]
      exact ⟨_, _, _, _, _, _, Hin.out.power hfr (by simpa using hbx) (fun _ _ h => by cases h) (by rw [← Hd.out]; exact Hgd.out)⟩
    | succ a =>
      have Hd := Lib.hid (show d.cut = { d with arm := some (a, p) } by simp [DK.cut, Ha.out])
      have Hg := Lib.hid (show d.gone = false by simp [DK.gone, Ha.out])
      obtain ⟨A, hA⟩ : ∃ A : Int, ((a + 1 : Nat) : Int) = A := ⟨_, rfl⟩
      rw [hA] at c5
      have hA0 : 0 < A := by omega
      have hA1 : A ≤ 9223372036854775807 := by omega
      have hAz : (A == 0) = false := by simp; omega
      have HA := Lib.hid hA
      clear hA b1
      go_enter Try.func67, Try.ntmps67
      go_wp2
      go_ret
      have eA : A - 1 = (a : Int) := by have := HA.out; omega
      have hfr : Fr (fun k => k = l) w (w.setCell ⟨l, 5, none⟩ (.int .i64 (A - 1))) := (Fr.refl (fun k => k = l) w).setCell (p := ⟨l, 5, none⟩) (.inl rfl) _
      have hbx := heap_set_eq (i := 5) (u := .int .i64 (A - 1)) Hbox.out
      refine ⟨ret_bool Hg.out.symm, ?_, ⟨hfr.mono (fun k hk => by subst hk; exact Hne.out), fun _ hk => .inl hk⟩⟩
      rw [Hd.out]
      exact ⟨_, _, _, _, _, _, Hin.out.power hfr (acts' := A - 1) (part' := part) (by simpa [Ha.out] using hbx) (fun a' p' h => by cases h; exact ⟨eA, Hep.out⟩) (by rw [← Hd.out]; exact Hgd.out)⟩

theorem end_any (g : Bool) (w : World) : Calls Try.prog 69 #[.bool g] w fun e w' => e = .returned (.int .i64 (if g then 30 else 0)) ∧ w = w' := by
  cases g
  all_goals
    go_enter Try.func69, Try.ntmps69
    go_wp2
    go_ret
    exact ⟨rfl, rfl⟩
set_option maxHeartbeats 400000 in
theorem mod_any (n k : Int) (w : World) (hk0 : 0 < k) (hk1 : k ≤ 4611686018427387904) : Calls Try.prog 68 #[.int .i64 n, .int .i64 k] w fun e w' => e = .returned (.int .i64 (n % k)) ∧ w = w' := by
  have ht := Int.lt_tmod_of_pos n hk0
  have hu := Int.tmod_lt_of_pos n hk0
  have hs := tmod_shift (n := n) hk0
  rcases Int.lt_or_le (n.tmod k) 0 with hl | hl
  · have hw : wrap64 (n.tmod k + k) = n.tmod k + k := IntWalk.wrap64_in _ (by omega)
    have hq : n % k = n.tmod k + k := by rw [← hs, Int.tmod_eq_of_lt (by omega) (by omega)]
    have Hw := Lib.hid hw
    have Hq := Lib.hid hq
    clear ht hu hs hw hq hk1
    go_enter Try.func68, Try.ntmps68
    go_wp2
    go_ret
    exact ⟨ret_int (by rw [Hq.out]; first | exact Hw.out | rfl), rfl⟩
  · have hq : n % k = n.tmod k := by rw [← hs, Int.tmod_eq_emod_of_nonneg (by omega), Int.add_emod_right, Int.emod_eq_of_lt hl hu]
    have Hq := Lib.hid hq
    clear ht hu hs hq hk1
    go_enter Try.func68, Try.ntmps68
    go_wp2
    go_ret
    exact ⟨ret_int Hq.out.symm, rfl⟩

set_option maxHeartbeats 400000 in
theorem rarm_any {l : Nat} {d : DK} {w : World} {F : Nat → Prop} (h : RDiskAt l d w F) (a p : Int) (ha : a ≤ 9223372036854775807) (hp0 : -9223372036854775808 ≤ p) (hp1 : p ≤ 9223372036854775807) :
    Calls Try.prog 48 #[.pointer (some ⟨l, 0, none⟩), .int .i64 a, .int .i64 p] w fun e w' => e = .returned (.tuple #[]) ∧ RDiskAt l (d.armed a p) w' F ∧ Step F F w w' := by
  obtain ⟨acts, part, sv, dv, ss, ps, hin⟩ := h
  obtain ⟨c0, c1, c2, c3, c4, c5, c6⟩ := hin.cells
  have z4 := free_of hin.box 4
  have z5 := free_of hin.box 5
  have z6 := free_of hin.box 6
  have Hin := Lib.hid hin
  have Hg := Lib.hid (hin.good.armed ha hp0 hp1)
  have Hne := Lib.hid hin.hl
  have Hbox := Lib.hid hin.box
  clear hin c0 c1 c2 c3 ha hp0 hp1
  go_enter Try.func48, Try.ntmps48
  go_wp2
  go_end0
  have hfr := (((Fr.refl (fun k => k = l) w).setCell (p := ⟨l, 4, none⟩) (.inl rfl) (.bool (decide (0 ≤ a)))).setCell (p := ⟨l, 5, none⟩) (.inl rfl) (.int .i64 a)).setCell (p := ⟨l, 6, none⟩) (.inl rfl) (.int .i64 p)
  have hbx := heap_set_eq (i := 6) (u := .int .i64 p) (heap_set_eq (i := 5) (u := .int .i64 a) (heap_set_eq (i := 4) (u := .bool (decide (0 ≤ a))) Hbox.out))
  refine ⟨rfl, ⟨_, _, _, _, _, _, Hin.out.power hfr (arm := if 0 ≤ a then some (a.toNat, p) else none) (acts' := a) (part' := p) ?_ ?_ Hg.out⟩, ⟨hfr.mono (fun k hk => by subst hk; exact Hne.out), fun _ hk => .inl hk⟩⟩
  · rw [hbx]
    by_cases h0 : 0 ≤ a <;> simp [h0]
  · intro a' p' h
    by_cases h0 : 0 ≤ a
    · rw [if_pos h0] at h
      cases h
      exact ⟨by omega, rfl⟩
    · rw [if_neg h0] at h; cases h
end Go.Proofs.Ytmcckppmciflmaa
