/-
  THE WALKS of bytes.Clone; of disk.cut, Up, Arm, Size, Sectors, is, modulo.
-/
import Derived.Shelf.Slices.Clone
import Derived.IntWalk
import Derived.Test.YthabllnhlhkejaaGreatDoorDkAt
namespace Go.Proofs.YthabllnhlhkejaaGreatDoor
open Go.RowKit

theorem ret_bool {a b : Bool} (h : a = b) : Ending.returned (.bool a) = .returned (.bool b) := by rw [h]
theorem ret_int {a b : Int} (h : a = b) : Ending.returned (.int .i64 a) = .returned (.int .i64 b) := by rw [h]

/-- a copy in new memory -/
theorem clone_any {w : World} {ao : Option Addr} {bs : Bs} (h : RowRd ByteR w ao bs) (cap : Nat) (hb : bs.length ≤ 140737488355328) : Calls Tryz.prog 52 #[.slice ao bs.length cap] w (CloneP bs w) := by
  have q := fun (w : World) (a : Option Addr) (n c : Nat) => Lib.run_eql_slice_nil (P := Tryz.prog) w 28 5 a n c 0 0 Tryz.underlying28
  have H := Lib.hid h
  cases ao with
  | none =>
    have hn : bs = [] := by
      cases bs with
      | nil => rfl
      | cons y ys => obtain ⟨b, off, e, _⟩ := h.at' 0 (by simp); cases e
    subst hn
    clear h
    go_enter Tryz.func52, Tryz.ntmps52
    go_wp2
    go_ret
    exact ⟨⟨none, 0, 0⟩, rfl, rfl, RowAt.nil, Fr.refl _ _, fun k hk => by cases hk⟩
  | some a =>
    clear h
    go_enter Tryz.func52, Tryz.ntmps52
    go_wp2_with (at_builtin; apply stop_here)
    refine ⟨?_, trivial⟩
    refine wpList_app rfl _ _ rfl el_bytes (v := .slice (some ⟨w.heap.size, 0, none⟩) 0 0) [] bs bs rfl w.heap.size 0 bs.length rfl rfl (World.ownsRow_made w #[] 0 (Nat.le_refl _) (Nat.zero_le _) rfl) rfl (H.out.fr0 ((Fr.refl _ _).alloc _)) rfl (by unfold maxLen; omega) (by omega) (by simp) ?_
    intro ao2 cap2 w2 o2 g2 _
    go_frame
    have O2 := Lib.hid o2
    have hf := (((Fr.refl noBlock w).alloc (.cells #[] 5)).grown g2 (fun k hk => by simp [Value.ownBlock] at hk; subst hk; exact .inr (Nat.le_refl _)))
    have Hf := Lib.hid hf
    clear o2 g2 hf
    go_wp2_with fail
    go_ret
    exact ⟨⟨ao2, bs.length, cap2⟩, rfl, rfl, RowAt.of_own O2.out rfl, Hf.out, fun k hk => (O2.out.lt k hk).1⟩

theorem DiskIn.cells {l : Nat} {d : DK} {w : World} {F : Nat → Prop} {acts part : Int} {sv : SV} {ss : List SV} {bm : Nat} {g : Int → Option SV} (h : DiskIn l d w F acts part sv ss bm g) :
    w.cell? ⟨l, 0, none⟩ = some (.bool d.off) ∧ w.cell? ⟨l, 1, none⟩ = some (.bool d.arm.isSome) ∧ w.cell? ⟨l, 2, none⟩ = some (.int .i64 acts) ∧ w.cell? ⟨l, 3, none⟩ = some (.int .i64 part) ∧
      w.cell? ⟨l, 4, none⟩ = some (.int .i64 d.size) ∧ w.cell? ⟨l, 5, none⟩ = some sv.val ∧ w.cell? ⟨l, 6, none⟩ = some (.map (some bm)) := by
  have hb := h.box
  exact ⟨by simpa using cell_of hb 0, by simpa using cell_of hb 1, by simpa using cell_of hb 2, by simpa using cell_of hb 3, by simpa using cell_of hb 4, by simpa using cell_of hb 5, by simpa using cell_of hb 6⟩
theorem DiskIn.sv_len {l : Nat} {d : DK} {w : World} {F : Nat → Prop} {acts part : Int} {sv : SV} {ss : List SV} {bm : Nat} {g : Int → Option SV} (h : DiskIn l d w F acts part sv ss bm g) : sv.n = d.safe.length := by
  have := h.rows
  rw [← h.len]
  exact this.len

/-- the disk's cells from 3 on stay -/
def CutP (l : Nat) (d : DK) (F : Nat → Prop) (w : World) (e : Ending) (w' : World) : Prop := e = .returned (.bool d.gone) ∧ DiskAt l d.cut w' F ∧ Step F F w w' ∧ (∀ o, 3 ≤ o → w'.cell? ⟨l, o, none⟩ = w.cell? ⟨l, o, none⟩)
set_option maxHeartbeats 400000 in
theorem cut_any {l : Nat} {d : DK} {w : World} {F : Nat → Prop} (h : DiskAt l d w F) : Calls Tryz.prog 71 #[.pointer (some ⟨l, 0, none⟩)] w (CutP l d F w) := by
  obtain ⟨acts, part, sv, ss, bm, g, hin⟩ := h
  obtain ⟨c0, c1, c2, c3, c4, c5, c6⟩ := hin.cells
  have z0 := free_of hin.box 0
  have z1 := free_of hin.box 1
  have z2 := free_of hin.box 2
  have Hin := Lib.hid hin
  have hgd := hin.good.cut
  have Hgd := Lib.hid hgd
  have hF := (hin.foot l).2 (.inl rfl)
  have Hne := Lib.hid hF
  have Hbox := Lib.hid hin.box
  have hcells := hin.good.arm
  clear c3 c4 c5 c6
  cases ha : d.arm with
  | none =>
    rw [ha] at c1
    simp only [Option.isSome_none] at c1
    have Hd := Lib.hid (show d.cut = d by simp [DK.cut, ha])
    have Hg := Lib.hid (show d.gone = false by simp [DK.gone, ha])
    clear hin hgd ha hF hcells
    go_enter Tryz.func71, Tryz.ntmps71
    go_wp2
    go_ret
    exact ⟨ret_bool Hg.out.symm, by rw [Hd.out]; exact ⟨_, _, _, _, _, _, Hin.out⟩, Step.refl _ _, fun _ _ => rfl⟩
  | some ap =>
    obtain ⟨a, p⟩ := ap
    obtain ⟨ea, ep⟩ := hin.arm a p ha
    obtain ⟨b1, _, _⟩ := hcells a p ha
    rw [ha] at c1
    simp only [Option.isSome_some] at c1
    rw [ea] at c2
    have Hep := Lib.hid ep
    have Hea := Lib.hid ea
    have Ha := Lib.hid ha
    clear hin hgd ha hF hcells ea ep
    cases a with
    | zero =>
      have Hd := Lib.hid (show d.cut = { d with off := true, arm := none } by simp [DK.cut, Ha.out])
      have Hg := Lib.hid (show d.gone = true by simp [DK.gone, Ha.out])
      go_enter Tryz.func71, Tryz.ntmps71
      go_wp2
      go_ret
      have hfr : Fr (fun k => k = l) w ((w.setCell ⟨l, 1, none⟩ (.bool false)).setCell ⟨l, 0, none⟩ (.bool true)) := ((Fr.refl (fun k => k = l) w).setCell (p := ⟨l, 1, none⟩) (.inl rfl) _).setCell (p := ⟨l, 0, none⟩) (.inl rfl) _
      have hbx := heap_set_eq (i := 0) (u := .bool true) (heap_set_eq (i := 1) (u := .bool false) Hbox.out)
      refine ⟨ret_bool Hg.out.symm, ?_, ⟨hfr.mono (fun k hk => by subst hk; exact Hne.out), fun _ hk => .inl hk⟩, ?_⟩
      · rw [Hd.out]
        exact ⟨_, _, _, _, _, _, Hin.out.power hfr (by simpa using hbx) (fun _ _ h => by cases h) (by rw [← Hd.out]; exact Hgd.out)⟩
      · intro o ho
        rw [cell_of hbx, cell_of Hbox.out]
        simp only [Array.getElem?_setIfInBounds]
        rw [if_neg (by omega), if_neg (by omega)]
    | succ a =>
      have Hd := Lib.hid (show d.cut = { d with arm := some (a, p) } by simp [DK.cut, Ha.out])
      have Hg := Lib.hid (show d.gone = false by simp [DK.gone, Ha.out])
      have hpos : (0 : Int) < ((a + 1 : Nat) : Int) := by omega
      go_enter Tryz.func71, Tryz.ntmps71
      go_wp2
      go_ret
      have hfr : Fr (fun k => k = l) w (w.setCell ⟨l, 2, none⟩ (.int .i64 (a : Int))) := (Fr.refl (fun k => k = l) w).setCell (p := ⟨l, 2, none⟩) (.inl rfl) _
      have hbx := heap_set_eq (i := 2) (u := .int .i64 (a : Int)) Hbox.out
      refine ⟨ret_bool Hg.out.symm, ?_, ⟨hfr.mono (fun k hk => by subst hk; exact Hne.out), fun _ hk => .inl hk⟩, ?_⟩
      · rw [Hd.out]
        exact ⟨_, _, _, _, _, _, Hin.out.power hfr (acts' := a) (part' := part) (by simpa [Ha.out] using hbx) (fun a' p' h => by cases h; exact ⟨rfl, Hep.out⟩) (by rw [← Hd.out]; exact Hgd.out)⟩
      · intro o ho
        rw [cell_of hbx, cell_of Hbox.out]
        simp only [Array.getElem?_setIfInBounds]
        rw [if_neg (by omega)]

theorem up_any {l : Nat} {d : DK} {w : World} {F : Nat → Prop} (h : DiskAt l d w F) : Calls Tryz.prog 54 #[.pointer (some ⟨l, 0, none⟩)] w fun e w' => e = .returned (.bool (!d.off)) ∧ w = w' := by
  obtain ⟨acts, part, sv, ss, bm, g, hin⟩ := h
  obtain ⟨c0, c1, c2, c3, c4, c5, c6⟩ := hin.cells
  clear hin c1 c2 c3 c4 c5 c6
  go_enter Tryz.func54, Tryz.ntmps54
  go_wp2
  go_ret
  exact ⟨rfl, rfl⟩
theorem size_any {l : Nat} {d : DK} {w : World} {F : Nat → Prop} (h : DiskAt l d w F) : Calls Tryz.prog 41 #[.pointer (some ⟨l, 0, none⟩)] w fun e w' => e = .returned (.int .i64 d.size) ∧ w = w' := by
  obtain ⟨acts, part, sv, ss, bm, g, hin⟩ := h
  obtain ⟨c0, c1, c2, c3, c4, c5, c6⟩ := hin.cells
  clear hin c0 c1 c2 c3 c5 c6
  go_enter Tryz.func41, Tryz.ntmps41
  go_wp2
  go_ret
  exact ⟨rfl, rfl⟩
theorem sectors_any {l : Nat} {d : DK} {w : World} {F : Nat → Prop} (h : DiskAt l d w F) : Calls Tryz.prog 31 #[.pointer (some ⟨l, 0, none⟩)] w fun e w' => e = .returned (.int .i64 d.safe.length) ∧ w = w' := by
  obtain ⟨acts, part, sv, ss, bm, g, hin⟩ := h
  obtain ⟨c0, c1, c2, c3, c4, c5, c6⟩ := hin.cells
  have hl := hin.sv_len
  obtain ⟨ao, n, cap⟩ := sv
  simp only at hl
  subst hl
  unfold SV.val at c5
  simp only at c5
  clear hin c0 c1 c2 c3 c4 c6
  go_enter Tryz.func31, Tryz.ntmps31
  go_wp2
  go_ret
  exact ⟨rfl, rfl⟩
theorem is_any {l : Nat} {d : DK} {w : World} {F : Nat → Prop} (h : DiskAt l d w F) (n : Int) (b : Bool) (hb : d.isS n = b) : Calls Tryz.prog 51 #[.pointer (some ⟨l, 0, none⟩), .int .i64 n] w fun e w' => e = .returned (.bool b) ∧ w = w' := by
  obtain ⟨acts, part, sv, ss, bm, g, hin⟩ := h
  obtain ⟨c0, c1, c2, c3, c4, c5, c6⟩ := hin.cells
  have hl := hin.sv_len
  obtain ⟨ao, m, cap⟩ := sv
  simp only at hl
  subst hl hb
  unfold SV.val at c5
  simp only at c5
  clear hin c0 c1 c2 c3 c4 c6
  by_cases h0 : 0 ≤ n
  · go_enter Tryz.func51, Tryz.ntmps51
    go_wp2
    go_ret
    exact ⟨ret_bool (by simp [DK.isS, h0]), rfl⟩
  · go_enter Tryz.func51, Tryz.ntmps51
    go_wp2
    go_ret
    exact ⟨ret_bool (by simp [DK.isS]; omega), rfl⟩

theorem tmod_shift {n k : Int} (hk : 0 < k) : (n.tmod k + k).tmod k = n % k := by
  have h0 := Int.lt_tmod_of_pos n hk
  rw [Int.tmod_eq_emod_of_nonneg (by omega), Int.add_emod_right]
  have e : n % k = (n.tmod k + k * n.tdiv k) % k := by rw [Int.tmod_add_mul_tdiv]
  rw [e, Int.add_mul_emod_self_left]
theorem modulo_any (n k : Int) (w : World) (h0 : 0 < k) (h1 : k ≤ 1000000) : Calls Tryz.prog 28 #[.int .i64 n, .int .i64 k] w fun e w' => e = .returned (.int .i64 (n % k)) ∧ w = w' := by
  have ht := Int.lt_tmod_of_pos n h0
  have hu := Int.tmod_lt_of_pos n h0
  have hs := tmod_shift (n := n) h0
  have hw : wrap64 (n.tmod k + k) = n.tmod k + k := IntWalk.wrap64_in _ (by omega)
  have Hs := Lib.hid hs
  have Hw := Lib.hid hw
  clear hs hw ht hu
  go_enter Tryz.func28, Tryz.ntmps28
  go_wp2
  go_ret
  exact ⟨ret_int (by show (wrap64 (n.tmod k + k)).tmod k = _; rw [Hw.out, Hs.out]), rfl⟩
set_option maxHeartbeats 400000 in
theorem arm_any {l : Nat} {d : DK} {w : World} {F : Nat → Prop} (h : DiskAt l d w F) (a p : Int) (ha : a ≤ 9223372036854775807) (hp0 : -9223372036854775808 ≤ p) (hp1 : p ≤ 9223372036854775807) :
    Calls Tryz.prog 13 #[.pointer (some ⟨l, 0, none⟩), .int .i64 a, .int .i64 p] w fun e w' => e = .returned (.tuple #[]) ∧ DiskAt l (d.armed a p) w' F ∧ Step F F w w' := by
  obtain ⟨acts, part, sv, ss, bm, g, hin⟩ := h
  obtain ⟨c0, c1, c2, c3, c4, c5, c6⟩ := hin.cells
  have z1 := free_of hin.box 1
  have z2 := free_of hin.box 2
  have z3 := free_of hin.box 3
  have Hin := Lib.hid hin
  have Hg := Lib.hid (hin.good.armed ha hp0 hp1)
  have Hne := Lib.hid ((hin.foot l).2 (.inl rfl))
  have Hbox := Lib.hid hin.box
  clear hin c0 c4 c5 c6 ha hp0 hp1
  go_enter Tryz.func13, Tryz.ntmps13
  go_wp2
  go_end0
  have hfr := (((Fr.refl (fun k => k = l) w).setCell (p := ⟨l, 1, none⟩) (.inl rfl) (.bool (decide (0 ≤ a)))).setCell (p := ⟨l, 2, none⟩) (.inl rfl) (.int .i64 a)).setCell (p := ⟨l, 3, none⟩) (.inl rfl) (.int .i64 p)
  have hbx := heap_set_eq (i := 3) (u := .int .i64 p) (heap_set_eq (i := 2) (u := .int .i64 a) (heap_set_eq (i := 1) (u := .bool (decide (0 ≤ a))) Hbox.out))
  refine ⟨rfl, ⟨_, _, _, _, _, _, Hin.out.power hfr (arm := if 0 ≤ a then some (a.toNat, p) else none) (acts' := a) (part' := p) ?_ ?_ Hg.out⟩, ⟨hfr.mono (fun k hk => by subst hk; exact Hne.out), fun _ hk => .inl hk⟩⟩
  · rw [hbx]
    by_cases h0 : 0 ≤ a <;> simp [h0]
  · intro a' p' h
    by_cases h0 : 0 ≤ a
    · rw [if_pos h0] at h
      cases h
      exact ⟨by omega, rfl⟩
    · rw [if_neg h0] at h; cases h
end Go.Proofs.YthabllnhlhkejaaGreatDoor
