/-
  The law's same: the program's table and the document's hold the same routes.
-/
import Derived.Test.YtpdkilfncflngaaRtRef
namespace Go.Proofs.Ytpdkilfncflngaa
open Go.RowKit

set_option maxRecDepth 100000 in
set_option maxHeartbeats 800000 in
theorem sameT_any {l l2 : Nat} {rs : List Route} {w : World} {F G : Nat → Prop} (h : TableAt l rs w F) (g : RTableAt l2 rs w G) :
    Calls Try.prog 17 #[.pointer (some ⟨l, 0, none⟩), .pointer (some ⟨l2, 0, none⟩)] w fun e w' => e = .returned (.bool true) ∧ Fr noBlock w w' := by
  have H := Lib.hid h
  have HG := Lib.hid g
  obtain ⟨vo, cap, c0, _, hl, _, _, hrow, _, _, _, _⟩ := g.1.opened
  have C0 := Lib.hid c0
  have Hrow := Lib.hid hrow
  have hlen := g.2.len
  clear h g c0 hrow
  go_enter Try.func17, Try.ntmps17
  go_wp2_with fail
  refine (list_any H.out).mono ?_
  rintro e w1 ⟨v, rfl, r1, f1, n1⟩
  have y0 := (f1.cell (p := ⟨l2, 0, none⟩) hl (fun x => x)).trans C0.out
  obtain ⟨sa, sc, rfl, _, _, _, _⟩ := r1.shape
  have R1 := Lib.hid r1
  have Hf1 := Lib.hid f1
  have N1 := Lib.hid n1
  clear f1 r1 n1
  go_wp2_with fail
  refine (same_eq _ _ _ _ R1.out (Hrow.out.fr0 Hf1.out)).mono ?_
  rintro e w2 ⟨rfl, f2⟩
  have R2 := Lib.hid (R1.out.fr0 f2)
  have Hf2 := Lib.hid (Hf1.out.trans' f2)
  clear f2 y0
  go_wp2_with fail
  go_loopw [7] (fun s7 wr => ∃ i : Nat, i ≤ rs.length ∧ s7 = .int .i64 i ∧ Fr noBlock w wr ∧ ∃ ys : List Route, ys.length = rs.length ∧ RowAt 42 RouteR wr (.slice sa rs.length sc) ys) (fun s7 _ => rs.length - (intOf s7).toNat)
  case atStart => exact ⟨0, Nat.zero_le _, rfl, Hf2.out, rs, rfl, R2.out⟩
  case round =>
    obtain ⟨i, hi, rfl, hf, ys, hys, hrow⟩ := hrel
    by_cases hlt : i < rs.length
    · have hlt' : (i : Int) < (rs.length : Int) := by omega
      have hi1 : i + 1 ≤ rs.length := by omega
      obtain ⟨g, hga, hg, -, -, hcel, hfz⟩ := hrow.elem (i := i) (by omega)
      subst hga
      have z0 : wr.frozen? ⟨g, i * 2, none⟩ = false := hfz _
      have z1 : wr.frozen? ⟨g, i * 2 + 1, none⟩ = false := hfz _
      have u0 : wr.cell? ⟨g, i * 2, none⟩ = _ := hcel 0 _ rfl
      have u1 : wr.cell? ⟨g, i * 2 + 1, none⟩ = _ := hcel 1 _ rfl
      have Hrow2 := Lib.hid hrow
      have Hf := Lib.hid hf
      clear hrow hcel hfz hf
      go_wp2_with fail
      have hgw : w.heap.size ≤ g := N1.out g rfl
      have r1 : RowAt 42 RouteR (wr.setCell ⟨g, i * 2, none⟩ (.string ⟨#[]⟩)) (.slice (some ⟨g, 0, none⟩) rs.length sc) (ys.set i ⟨⟨#[]⟩, ys[i].target⟩) := Hrow2.out.set (j := 0) (by omega) (by decide) ⟨⟨#[]⟩, ys[i].target⟩ rfl
      have r2 : RowAt 42 RouteR ((wr.setCell ⟨g, i * 2, none⟩ (.string ⟨#[]⟩)).setCell ⟨g, i * 2 + 1, none⟩ (.int .i64 (-7))) (.slice (some ⟨g, 0, none⟩) rs.length sc) ((ys.set i ⟨⟨#[]⟩, ys[i].target⟩).set i ⟨⟨#[]⟩, -7⟩) := r1.set (j := 1) (by rw [List.length_set]; omega) (by decide) ⟨⟨#[]⟩, -7⟩ (by rw [List.getElem_set_self]; rfl)
      exact ⟨⟨i + 1, hi1, by go_num, (Hf.out.setCell (p := ⟨g, i * 2, none⟩) (.inr hgw) _).setCell (p := ⟨g, i * 2 + 1, none⟩) (.inr hgw) _, _, by simp [hys], r2⟩, by simp [intOf]; omega⟩
    · have hlt' : (rs.length : Int) ≤ (i : Int) := by omega
      have Hf := Lib.hid hf
      clear hf hrow
      go_wp2_with fail
      go_ret
      exact ⟨rfl, Hf.out⟩
end Go.Proofs.Ytpdkilfncflngaa
