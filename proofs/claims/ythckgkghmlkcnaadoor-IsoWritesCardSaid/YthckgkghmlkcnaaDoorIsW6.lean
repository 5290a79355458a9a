/-
  THE WALK of the law's over.
-/
import Derived.Test.YthckgkghmlkcnaaDoorIsW5
namespace Go.Proofs.YthckgkghmlkcnaaDoor
open Go.RowKit

def OverP (v : Value) (w : World) (e : Ending) (w' : World) : Prop := e = .returned (.tuple #[]) ∧ Fr (fun k => v.ownBlock = some k) w w'
set_option maxRecDepth 100000 in
set_option maxHeartbeats 3200000 in
theorem over_any (t : ByteArray) {ao : Option Addr} {cap : Nat} {l : List Fld} {w : World} (h : RowAt 41 FldR w (.slice ao l.length cap) l) (hl : l.length ≤ 5864062014900) : Calls Tryd.prog 24 #[.agg #[.string t, .slice ao l.length cap]] w (OverP (.slice ao l.length cap) w) := by
  obtain ⟨n, hn⟩ : ∃ n, l.length = n := ⟨_, rfl⟩
  have hlt0 := h.lt
  have HR := Lib.hid (h.fr0 ((Fr.refl noBlock w).alloc (.cells #[.string t, .slice ao l.length cap] 27)))
  have HB0 := Lib.hid (heap_new w (.cells #[.string t, .slice ao l.length cap] 27))
  have HF0 := Lib.hid ((Fr.refl (fun k => (Value.slice ao l.length cap).ownBlock = some k) w).alloc (.cells #[.string t, .slice ao l.length cap] 27))
  have HLt := Lib.hid hlt0
  unfold OverP
  have hlen := hn
  rw [hn] at HR HB0 HF0 HLt hl ⊢
  clear hn
  clear h hlt0
  go_enter Tryd.func24, Tryd.ntmps24
  go_wp2_with fail
  go_loopw [2] (fun s2 wr => ∃ (i : Nat) (L : List Fld), i ≤ n ∧ s2 = .int .i64 i ∧ Hid (L.length = n ∧ RowAt 41 FldR wr (.slice ao n cap) L) ∧ Hid (wr.heap[w.heap.size]? = some (.cells #[.string t, .slice ao n cap] 27 (0, 0))) ∧ Hid (Fr (fun k => (Value.slice ao n cap).ownBlock = some k) w wr)) (fun s2 _ => n - (intOf s2).toNat)
  case atStart => exact ⟨0, l, Nat.zero_le _, rfl, Lib.hid ⟨hlen, HR.out⟩, HB0, HF0⟩
  case round =>
    clear HR HB0 HF0
    obtain ⟨i, L, hi, rfl, HL, HB, HF⟩ := hrel
    have x1 := cell_of HB.out 1
    simp at x1
    by_cases hlt : i < n
    · have q1 : (i : Int) < (n : Int) := by omega
      have q0 : (0 : Int) ≤ (i : Int) := by omega
      have hi' : i + 1 ≤ n := hlt
      have hiL : i < L.length := by rw [HL.out.1]; exact hlt
      obtain ⟨g, rfl, hg, -, -, hc, hfz⟩ := HL.out.2.elem hiL
      have y0 := hc 0 _ rfl
      have y1 := hc 1 _ rfl
      rw [fldK] at y0 y1
      rw [Nat.add_zero] at y0
      have z0 := hfz (i * 2)
      have z1 := hfz (i * 2 + 1)
      have r1 := HL.out.2.set (g := g) (i := i) (j := 0) (u := .int .i64 (-7)) hiL (by show 0 < 2; omega) ⟨-7, L[i].v⟩ rfl
      have hi2 : i < (L.set i ⟨-7, L[i].v⟩).length := by rw [List.length_set]; exact hiL
      have r2 := r1.set (g := g) (i := i) (j := 1) (u := .string ⟨#[]⟩) hi2 (by show 1 < 2; omega) ⟨-7, ⟨#[]⟩⟩ (by simp [FldR])
      rw [fldK, Nat.add_zero] at r2
      have HN := Lib.hid (And.intro (show ((L.set i ⟨-7, L[i].v⟩).set i ⟨-7, ⟨#[]⟩⟩).length = n by rw [List.length_set, List.length_set]; exact HL.out.1) r2)
      have hgw : g < w.heap.size := HLt.out g rfl
      have HB2 := Lib.hid (heap_set_ne (b := g) (i := i * 2 + 1) (u := .string ⟨#[]⟩) (heap_set_ne (b := g) (i := i * 2) (u := .int .i64 (-7)) HB.out (by omega)) (by omega))
      have HF2 := Lib.hid ((HF.out.setCell (p := ⟨g, i * 2, none⟩) (.inl rfl) (.int .i64 (-7))).setCell (p := ⟨g, i * 2 + 1, none⟩) (.inl rfl) (.string ⟨#[]⟩))
      generalize L[i] = f at *
      clear r1 r2 hi2 hc hfz hlt
      go_wp2_with fail
      go_roundw
      case rel => exact ⟨i + 1, _, hi', by go_num, HN, HB2, HF2⟩
      case measure => simp [intOf]; omega
    · have q1 : (n : Int) ≤ (i : Int) := by omega
      clear hlt
      go_wp2_with fail
      go_end0
      exact ⟨rfl, HF.out⟩
end Go.Proofs.YthckgkghmlkcnaaDoor
