/-
  A JOURNAL IN MEMORY (the document's): its block, its disk. THE WALKS of do, Sectors, Size, Read.
-/
import Derived.Test.YtmcckppmciflmaaJnAt
namespace Go.Proofs.Ytmcckppmciflmaa
open Go.RowKit

def RJobj (l : Nat) (bad : Int) : Obj := .cells #[.pointer (some ⟨l, 0, none⟩), .int .i64 bad] 117 (0, 0)
def RJAt (j l : Nat) (d : DK) (bad : Int) : Thing := Two (RDiskAt l d) (BoxT j (RJobj l bad))
theorem RJAt.ok {j l : Nat} {d : DK} {bad : Int} : (RJAt j l d bad).Ok := Two.ok RDiskAt.ok BoxT.ok
theorem RJAt.cells {j l : Nat} {d : DK} {bad : Int} {w : World} {H : Nat → Prop} (h : RJAt j l d bad w H) : w.cell? ⟨j, 0, none⟩ = some (.pointer (some ⟨l, 0, none⟩)) ∧ w.cell? ⟨j, 1, none⟩ = some (.int .i64 bad) ∧ w.frozen? ⟨j, 1, none⟩ = false ∧ j < w.heap.size := by
  obtain ⟨F, G, h1, ⟨h2, h2'⟩, h3, h4⟩ := h
  exact ⟨by simpa using cell_of h2 0, by simpa using cell_of h2 1, free_of h2 1, heap_lt h2⟩
theorem RJAt.disk {j l : Nat} {d : DK} {bad : Int} {w : World} {H : Nat → Prop} (h : RJAt j l d bad w H) : ∃ G, RDiskAt l d w G ∧ (∀ k, G k → H k) ∧ ∀ (d' : DK) (w' : World) (G' : Nat → Prop), RDiskAt l d' w' G' → Step G G' w w' → ∃ H', RJAt j l d' bad w' H' ∧ Step H H' w w' := by
  obtain ⟨F, G, h1, h2, h3, h4⟩ := h
  exact ⟨F, h1, fun k hk => (h4 k).2 (.inl hk), fun d' w' G' h' hs => ⟨_, Two.left BoxT.ok h2 h3 h4 h' hs⟩⟩
theorem RJAt.good {j l : Nat} {d : DK} {bad : Int} {w : World} {H : Nat → Prop} (h : RJAt j l d bad w H) : d.Good := by obtain ⟨F, G, h1, _⟩ := h; exact h1.good
theorem RJAt.setBad {j l : Nat} {d : DK} {bad : Int} {w : World} {H : Nat → Prop} (h : RJAt j l d bad w H) (x : Int) : RJAt j l d x (w.setCell ⟨j, 1, none⟩ (.int .i64 x)) H ∧ Step H H w (w.setCell ⟨j, 1, none⟩ (.int .i64 x)) := by
  obtain ⟨F, G, h1, ⟨h2, h2'⟩, h3, h4⟩ := h
  have hf : Fr (fun k => k = j) w (w.setCell ⟨j, 1, none⟩ (.int .i64 x)) := (Fr.refl (fun k => k = j) w).setCell (p := ⟨j, 1, none⟩) (.inl rfl) _
  have hj : G j := (h2' j).2 rfl
  refine ⟨⟨F, G, RDiskAt.ok.fr h1 hf (fun k hk e => h3 k hk (by rw [e]; exact hj)), ⟨?_, h2'⟩, h3, h4⟩, ⟨hf.mono (fun k hk => by subst hk; exact (h4 _).2 (.inr hj)), fun _ hk => .inl hk⟩⟩
  have := heap_set_eq (i := 1) (u := .int .i64 x) h2
  simpa [RJobj] using this
/-- the disk's cells -/
theorem RDiskAt.cells {l : Nat} {d : DK} {w : World} {F : Nat → Prop} (h : RDiskAt l d w F) : ∃ sa sc, w.cell? ⟨l, 0, none⟩ = some (.slice sa d.safe.length sc) ∧ w.cell? ⟨l, 2, none⟩ = some (.int .i64 d.size) ∧ w.cell? ⟨l, 3, none⟩ = some (.bool d.off) ∧ l < w.heap.size := by
  obtain ⟨acts, part, sv, dv, ss, ps, hin⟩ := h
  obtain ⟨sa, sc, da, dc, rfl, rfl, -⟩ := hin.forms
  obtain ⟨c0, c1, c2, c3, -⟩ := hin.cells
  have hl := hin.len
  unfold SV.val at c0
  simp only at c0
  rw [hl] at c0
  exact ⟨sa, sc, c0, c2, c3, heap_lt hin.box⟩
theorem RJAt.dcells {j l : Nat} {d : DK} {bad : Int} {w : World} {H : Nat → Prop} (h : RJAt j l d bad w H) : ∃ sa sc, w.cell? ⟨l, 0, none⟩ = some (.slice sa d.safe.length sc) ∧ w.cell? ⟨l, 2, none⟩ = some (.int .i64 d.size) ∧ w.cell? ⟨l, 3, none⟩ = some (.bool d.off) ∧ l < w.heap.size := by
  obtain ⟨G, hG, -, -⟩ := h.disk
  exact hG.cells

set_option maxHeartbeats 400000 in
theorem rdo_any {j l : Nat} {d : DK} {w : World} {H : Nat → Prop} (h : RJAt j l d 0 w H) (x : Int) : Calls Try.prog 76 #[.pointer (some ⟨j, 0, none⟩), .int .i64 x] w fun e w' => e = .returned (.bool (x == 0)) ∧ RJAt j l d x w' H ∧ Step H H w w' := by
  obtain ⟨c0, c1, z1, hj⟩ := h.cells
  have HS := Lib.hid (h.setBad x)
  clear h c0
  go_enter Try.func76, Try.ntmps76
  go_wp2_with fail
  go_ret
  exact ⟨rfl, HS.out.1, HS.out.2⟩
set_option maxHeartbeats 400000 in
theorem rjsectors_any {j l : Nat} {d : DK} {bad : Int} {w : World} {H : Nat → Prop} (h : RJAt j l d bad w H) : Calls Try.prog 63 #[.pointer (some ⟨j, 0, none⟩)] w fun e w' => e = .returned (.int .i64 (secs d)) ∧ w = w' := by
  obtain ⟨c0, -, -, -⟩ := h.cells
  obtain ⟨sa, sc, c1, -, -, -⟩ := h.dcells
  have hn := h.good.n1
  have HE := Lib.hid (show ((d.safe.length : Int) - 8 - 1) = secs d by unfold secs; omega)
  clear h
  go_enter Try.func63, Try.ntmps63
  go_wp2_with fail
  go_ret
  exact ⟨ret_int HE.out, rfl⟩
set_option maxHeartbeats 400000 in
theorem rjsize_any {j l : Nat} {d : DK} {bad : Int} {w : World} {H : Nat → Prop} (h : RJAt j l d bad w H) : Calls Try.prog 64 #[.pointer (some ⟨j, 0, none⟩)] w fun e w' => e = .returned (.int .i64 d.size) ∧ w = w' := by
  obtain ⟨c0, -, -, -⟩ := h.cells
  obtain ⟨sa, sc, -, c1, -, -⟩ := h.dcells
  clear h
  go_enter Try.func64, Try.ntmps64
  go_wp2_with fail
  go_ret
  exact ⟨rfl, rfl⟩
set_option maxHeartbeats 800000 in
theorem rjread_any {j l : Nat} {d : DK} {bad : Int} {w : World} {H : Nat → Prop} (h : RJAt j l d bad w H) (n : Int) : Calls Try.prog 62 #[.pointer (some ⟨j, 0, none⟩), .int .i64 n] w (ReadP (jreadB d n) (jreadE d n) w) := by
  obtain ⟨c0, -, -, -⟩ := h.cells
  obtain ⟨sa, sc, -, -, c3, -⟩ := h.dcells
  have HH := Lib.hid h
  have hn1 := h.good.n1
  obtain ⟨sn, hsn⟩ : ∃ sn, secs d = sn := ⟨_, rfl⟩
  have HS := Lib.hid hsn
  have hs1 : sn ≤ 4096 := by unfold secs at hsn; omega
  clear h
  cases hi : isJ d n with
  | true =>
    have hb : jreadB d n = d.readB (n + 8 + 1) ∧ jreadE d n = d.readE (n + 8 + 1) := by rw [show n + 8 + 1 = 9 + n by omega]; simp [jreadB, jreadE, hi]
    have hr : 0 ≤ n ∧ n < sn := by
      unfold isJ at hi
      rw [hsn] at hi
      simp at hi
      omega
    obtain ⟨r0, r1⟩ := hr
    rw [hb.1, hb.2]
    clear hi hb hsn c3
    go_enter Try.func62, Try.ntmps62
    go_wp2_with fail
    refine (rjsectors_any HH.out).mono ?_
    rintro e w' ⟨rfl, rfl⟩
    rw [HS.out]
    go_wp2_with fail
    obtain ⟨G, hG, -, -⟩ := HH.out.disk
    refine (rread_any hG _).mono ?_
    rintro e w' ⟨s, rfl, h1, h2, h3, h4⟩
    have HX := Lib.hid (And.intro h1 (And.intro h2 (And.intro h3 h4)))
    clear h1 h2 h3 h4
    go_wp2_with fail
    go_ret2
    exact ⟨s, rfl, HX.out.1, HX.out.2.1, HX.out.2.2.1, HX.out.2.2.2⟩
  | false =>
    have hb : jreadB d n = [] ∧ jreadE d n = if d.off then 30 else 31 := by simp [jreadB, jreadE, hi]
    have hr : n < 0 ∨ (0 ≤ n ∧ sn ≤ n) := by
      unfold isJ at hi
      rw [hsn] at hi
      simp at hi
      omega
    rw [hb.1, hb.2]
    clear hi hb hsn
    cases hoff : d.off with
    | true =>
      rw [hoff] at c3
      clear hoff
      rw [if_pos rfl]
      rcases hr with r | ⟨r, r'⟩
      · go_enter Try.func62, Try.ntmps62
        go_wp2_with fail
        go_ret2
        exact read_nil rfl (Fr.refl _ _)
      · go_enter Try.func62, Try.ntmps62
        go_wp2_with fail
        refine (rjsectors_any HH.out).mono ?_
        rintro e w' ⟨rfl, rfl⟩
        rw [HS.out]
        go_wp2_with fail
        go_ret2
        exact read_nil rfl (Fr.refl _ _)
    | false =>
      rw [hoff] at c3
      clear hoff
      rw [if_neg (by simp)]
      rcases hr with r | ⟨r, r'⟩
      · go_enter Try.func62, Try.ntmps62
        go_wp2_with fail
        go_ret2
        exact read_nil rfl (Fr.refl _ _)
      · go_enter Try.func62, Try.ntmps62
        go_wp2_with fail
        refine (rjsectors_any HH.out).mono ?_
        rintro e w' ⟨rfl, rfl⟩
        rw [HS.out]
        go_wp2_with fail
        go_ret2
        exact read_nil rfl (Fr.refl _ _)
end Go.Proofs.Ytmcckppmciflmaa
