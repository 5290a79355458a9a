/-
  THE WALK of the document's disk: New.
-/
import Derived.Test.YtmcckppmciflmaaRdRead
import Derived.Test.YtmcckppmciflmaaDkNew
namespace Go.Proofs.Ytmcckppmciflmaa
open Go.RowKit

theorem rnew_no (sectors size : Int) (w : World) (h : newOk sectors size = false) : Calls Try.prog 23 #[.int .i64 sectors, .int .i64 size] w fun e w' => e = .returned (.tuple #[.pointer none, .int .i64 1]) ∧ w = w' := by
  have hcs : sectors < 1 ∨ (1 ≤ sectors ∧ 4096 < sectors) ∨ (1 ≤ sectors ∧ sectors ≤ 4096 ∧ size < 64) ∨ (1 ≤ sectors ∧ sectors ≤ 4096 ∧ 64 ≤ size ∧ 4096 < size) := by
    simp [newOk] at h; omega
  clear h
  rcases hcs with h1 | ⟨h1, h2⟩ | ⟨h1, h2, h3⟩ | ⟨h1, h2, h3, h4⟩
  all_goals
    go_enter Try.func23, Try.ntmps23
    go_wp2
    go_ret2
    exact ⟨rfl, rfl⟩

def RNewP (sectors size : Int) (w : World) (e : Ending) (w' : World) : Prop := ∃ l F, e = .returned (.tuple #[.pointer (some ⟨l, 0, none⟩), .int .i64 0]) ∧ RDiskAt l (DK.new sectors.toNat size.toNat) w' F ∧ Fr noBlock w w' ∧ ∀ k, F k → w.heap.size ≤ k
set_option maxRecDepth 100000 in
set_option maxHeartbeats 1600000 in
theorem rnew_ok (sectors size : Int) (w : World) (h : newOk sectors size = true) : Calls Try.prog 23 #[.int .i64 sectors, .int .i64 size] w (RNewP sectors size w) := by
  simp only [newOk, Bool.and_eq_true, decide_eq_true_eq] at h
  obtain ⟨⟨⟨h1, h2⟩, h3⟩, h4⟩ := h
  obtain ⟨n, rfl⟩ : ∃ n : Nat, sectors = n := ⟨sectors.toNat, by omega⟩
  obtain ⟨m, rfl⟩ : ∃ m : Nat, size = m := ⟨size.toNat, by omega⟩
  have hmk := fun W => run_make_row' (P := Try.prog) 23 5 (.int .u8 0) 1 Try.underlying23 infoB rfl .i64 .i64 m (by omega) (by omega) W
  have hmade := fun W => bytes_made W m (by unfold maxLen; omega)
  obtain ⟨Z, hZ⟩ : ∃ Z, madeCells #[.int .u8 0] m = Z := ⟨_, rfl⟩
  rw [hZ] at hmk hmade
  have Hmade := Lib.hid hmade
  clear hZ hmade
  go_enter Try.func23, Try.ntmps23
  go_wp2_with fail
  have hstart : RDiskIn w.heap.size (DK.new 0 m) (w.alloc (.cells #[.slice none 0 0, .slice none 0 0, .int .i64 m, .bool false, .bool false, .int .i64 0, .int .i64 0] 91)) (fun k => k = w.heap.size) 0 0 ⟨none, 0, 0⟩ ⟨none, 0, 0⟩ [] [] :=
    ⟨heap_new w _, (fun a p h => by cases h), RowAt.nil, rfl, (fun i s b h => by simp at h), RowAt.nil, rfl, (fun i p q h => by simp at h), rfl, (fun k hk => by cases hk), (fun k hk => by cases hk), (fun k hk => by subst hk; simp), DK.Good.new (by omega) (by omega) (by omega)⟩
  have Hstart := Lib.hid (Mine.mk (w0 := w) (A := RDiskAt w.heap.size (DK.new 0 m)) ⟨_, _, _, _, _, _, hstart⟩ (fun k hk => by omega) ((Fr.refl noBlock w).alloc _ |>.below (Nat.le_refl _) (fun _ h => h.elim)))
  clear hstart
  go_loopw [7] (fun s7 wr => ∃ (i : Nat) (G : Nat → Prop), i ≤ n ∧ s7 = .int .i64 i ∧ Mine w (RDiskAt w.heap.size (DK.new i m)) wr G) (fun s7 _ => n - (intOf s7).toNat)
  case atStart => exact ⟨0, _, Nat.zero_le _, rfl, Hstart.out⟩
  case round =>
    obtain ⟨i, G, hi, rfl, hM⟩ := hrel
    clear Hstart
    have HM := Lib.hid hM
    obtain ⟨acts, part, sv, dv, ss, ps, hin⟩ := hM.it
    clear hM
    by_cases hlt : i < n
    · have q1 : (i : Int) < (n : Int) := by omega
      have hsl : ss.length = i := by rw [hin.len]; simp [DK.new]
      obtain ⟨c0, c1, c2, c3, c4, c5, c6⟩ := hin.cells
      have z5 := free_of hin.box 0
      have hlw := heap_lt hin.box
      have hrow := hin.rows
      obtain ⟨sa, sc, da, dc, rfl, rfl, _, _, _, _⟩ := hin.forms
      rw [hsl] at c0 hrow
      unfold SV.val at c0 hrow
      simp only at c0 hrow
      have Hnl := Lib.hid (show (Value.slice sa i sc).ownBlock ≠ some w.heap.size from by have := hin.l_rows; rw [hsl] at this; exact this)
      have Hin := Lib.hid hin
      have Hsl := Lib.hid hsl
      have Hrow := Lib.hid (show wr.ownsRow 0 23 SliceR.k (.slice sa i sc) i (SliceR.flat ss) by have := hrow; unfold RowAt at this; rwa [hsl] at this)
      have Hone := Lib.hid (show RowRd SliceR ((wr.alloc (.cells Z 5)).alloc (.cells #[.slice (some ⟨wr.heap.size, 0, none⟩) m m] 23)) (some ⟨wr.heap.size + 1, 0, none⟩) [(⟨some ⟨wr.heap.size, 0, none⟩, m, m⟩ : SV)] from RowRd.one (by
        have := heap_new (wr.alloc (.cells Z 5)) (.cells #[.slice (some ⟨wr.heap.size, 0, none⟩) m m] 23)
        have e : (wr.alloc (.cells Z 5)).heap.size = wr.heap.size + 1 := by simp
        rw [e] at this
        exact this) _ rfl)
      have hA1 := fun o1 => (World.cell?_alloc_lt wr o1 ⟨w.heap.size, 0, none⟩ hlw).trans c0
      have hA2 := fun o1 o2 => ((((Fr.refl noBlock wr).alloc o1).alloc o2).cell (p := ⟨w.heap.size, 0, none⟩) hlw (fun x => x)).trans c0
      clear hin hrow c1 c2 c3 c4 c5 c6 hlt hsl
      go_wp2_with fail
      go_region_law
        ((refine step_app (by rfl) _ _ (by rfl) el_rows (v := .slice sa i sc) ss [(⟨some ⟨wr.heap.size, 0, none⟩, m, m⟩ : SV)] (ss ++ [(⟨some ⟨wr.heap.size, 0, none⟩, m, m⟩ : SV)]) rfl 0 i (i + 1) (by simp [Hsl.out]) (by rfl) (((Hrow.out.alloc _).alloc _).drew) (by rfl) (Hone.out.fr0 ((Fr.refl _ _).drew)) rfl (by unfold maxLen; omega) (by omega) (Nat.zero_le _) ?_; intro ao2 cap2 w2 o2 g2 a2; have hfa : Fr noBlock wr (((wr.alloc (.cells Z 5)).alloc (.cells #[.slice (some ⟨wr.heap.size, 0, none⟩) m m] 23)).drew) := (((Fr.refl noBlock wr).alloc _).alloc _).drew; have hl5 := hfa.size; have hc5 := (g2.cell_far ⟨w.heap.size, 0, none⟩ (by simp; omega) (fun e => Hnl.out e.symm)).trans ((hfa.cell (p := ⟨w.heap.size, 0, none⟩) hlw (fun x => x)).trans c0); have hz5 := (g2.frozen_far ⟨w.heap.size, 0, none⟩ (by simp; omega) (fun e => Hnl.out e.symm)).trans ((hfa.frozen (p := ⟨w.heap.size, 0, none⟩) hlw (fun x => x)).trans z5)))
      all_goals
        have HG := Lib.hid (Hin.out.grow (b := List.replicate m 0) (s' := ⟨some ⟨wr.heap.size, 0, none⟩, m, m⟩) (w1 := ((wr.alloc (.cells Z 5)).alloc (.cells #[.slice (some ⟨wr.heap.size, 0, none⟩) m m] 23)).drew) (w2 := w2) (sv' := ⟨ao2, i + 1, cap2⟩) (((Fr.refl noBlock wr).alloc _).alloc _).drew (by simp [DK.new]) ((Hmade.out wr).fr0 (((Fr.refl noBlock _).alloc _).drew)) (fun q hq => by cases hq; exact Nat.le_refl _) (RowAt.of_own o2 (by simp [Hsl.out])) (by rw [Hsl.out]; exact g2) (by rw [Hsl.out]; exact a2.imp (fun e => e) (fun e => e)) (by simp [DK.new]; omega))
        clear o2 g2 a2 hA1 hA2
        go_wp2_with fail
        go_roundw
        case rel =>
          obtain ⟨hD, hS⟩ := HG.out
          have e : ({ DK.new i m with safe := (DK.new i m).safe ++ [List.replicate m 0] } : DK) = DK.new (i + 1) m := by simp [DK.new, List.replicate_succ']
          exact ⟨i + 1, _, by omega, by go_num, HM.out.step (A' := RDiskAt w.heap.size (DK.new (i + 1) m)) ⟨_, _, _, _, _, _, e ▸ hD⟩ hS⟩
        case measure => simp [intOf]; omega
    · have q1 : (n : Int) ≤ (i : Int) := by omega
      have e : i = n := by omega
      clear hin hlt
      subst e
      go_wp2_with fail
      go_ret2
      exact ⟨_, G, rfl, HM.out.it, Fr.of_below HM.out.below, HM.out.base⟩
end Go.Proofs.Ytmcckppmciflmaa
