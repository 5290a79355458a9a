/-
  THE WALKS of disk.Read, Safe.
-/
import Derived.Test.YtmcckppmciflmaaDkLand
namespace Go.Proofs.Ytmcckppmciflmaa
open Go.RowKit

/-- bytes in new memory, and an error -/
def ReadP (bs : Bs) (x : Int) (w : World) (e : Ending) (w' : World) : Prop := ∃ s : SV, e = .returned (.tuple #[s.val, .int .i64 x]) ∧ s.n = bs.length ∧ RowAt 5 ByteR w' s.val bs ∧ Fr noBlock w w' ∧ ∀ k, s.val.ownBlock = some k → w.heap.size ≤ k
theorem read_nil {w w' : World} {x : Int} {e : Ending} (he : e = .returned (.tuple #[.slice none 0 0, .int .i64 x])) (hf : Fr noBlock w w') : ReadP [] x w e w' :=
  ⟨⟨none, 0, 0⟩, he, rfl, RowAt.nil, hf, fun k hk => by cases hk⟩
theorem ret_two' {s : SV} {x : Int} : Ending.returned (.tuple #[s.val, .int .i64 x]) = .returned (.tuple #[.slice s.ao s.n s.cap, .int .i64 x]) := rfl

set_option maxRecDepth 100000 in
set_option maxHeartbeats 800000 in
theorem read_any {l : Nat} {d : DK} {w : World} {F : Nat → Prop} (h : DiskAt l d w F) (n : Int) : Calls Try.prog 16 #[.pointer (some ⟨l, 0, none⟩), .int .i64 n] w (ReadP (d.readB n) (d.readE n) w) := by
  have His := Lib.hid (is_any h n _ rfl)
  have hgood := h.good
  obtain ⟨acts, part, sv, ss, bm, g, hin⟩ := h
  obtain ⟨c0, c1, c2, c3, c4, c5, c6⟩ := hin.cells
  have hs0 := hgood.s0
  have hs1 := hgood.s1
  have hn1 := hgood.n1
  clear c1 c2 c3 c4
  cases hoff : d.off with
  | true =>
    rw [hoff] at c0
    have Hd := Lib.hid (show d.readB n = [] ∧ d.readE n = 30 by simp [DK.readB, DK.readE, hoff])
    clear hin hoff c5 c6
    go_enter Try.func16, Try.ntmps16
    go_wp2_with fail
    go_ret2
    rw [Hd.out.1, Hd.out.2]
    exact read_nil rfl (Fr.refl _ _)
  | false =>
    rw [hoff] at c0
    cases his : d.isS n with
    | false =>
      have Hd := Lib.hid (show d.readB n = [] ∧ d.readE n = 31 by simp [DK.readB, DK.readE, hoff, his])
      rw [his] at His
      clear hin hoff c5 c6
      go_enter Try.func16, Try.ntmps16
      go_wp2_with fail
      refine His.out.mono ?_
      rintro e w1 ⟨rfl, rfl⟩
      go_wp2_with fail
      go_ret2
      rw [Hd.out.1, Hd.out.2]
      exact read_nil rfl (Fr.refl _ _)
    | true =>
      rw [his] at His
      obtain ⟨hn0, hnl⟩ := DK.isS_iff.1 his
      have hlook := hin.map.look (mt := 41) Try.underlying41 (zero_bytes w) (kI_ok hn0 (by omega) : kI.ok n)
      cases hg : g n with
      | some t =>
        obtain ⟨b, hb, hbl, hbt⟩ := hin.dirt_buf hg
        have Hd := Lib.hid (show d.readB n = b ∧ d.readE n = 0 by simp [DK.readB, DK.readE, hoff, his, hb])
        obtain ⟨gt, ct, et, _, _⟩ := sv_form hbt (by omega)
        have Hc := Lib.hid (fun W (hW : Fr noBlock w W) => clone_any (RowAt.rd (E := 5) (by rw [et] at hbt; exact hbt.fr0 hW)) ct (by omega))
        simp only [hg, Option.map_some, Option.getD_some, Option.isSome_some, et] at hlook
        unfold SV.val at hlook
        simp only at hlook
        have hl1 : (Instr.lookup 41 (.map (some bm)) (.int .i64 n) true).run Try.prog w = .ok (.tuple #[.slice (some ⟨gt, 0, none⟩) b.length ct, .bool true]) w := hlook
        clear hlook hin hoff c5 hb hbt hg his hbl et
        go_enter Try.func16, Try.ntmps16
        go_wp2_with fail
        refine His.out.mono ?_
        rintro e w1 ⟨rfl, rfl⟩
        go_wp2_with fail
        refine (Hc.out _ (Fr.refl _ _)).mono ?_
        rintro e w2 ⟨s, rfl, hsn, hr, hf, hnew⟩
        clear hl1
        go_wp2_with fail
        go_ret2
        rw [Hd.out.1, Hd.out.2]
        exact ⟨s, rfl, hsn, hr, hf, hnew⟩
      | none =>
        have hnd : lookD d.dirty n = none := by have := hin.dirt n; rw [hg] at this; simpa using this.symm
        obtain ⟨i, hi⟩ : ∃ i : Nat, n = (i : Int) := ⟨n.toNat, by omega⟩
        subst hi
        have hil : i < d.safe.length := by omega
        have his' : i < ss.length := by rw [hin.len]; exact hil
        have Hd := Lib.hid (show d.readB i = d.safe[i] ∧ d.readE i = 0 by simp [DK.readB, DK.readE, hoff, his, hnd, List.getD, List.getElem?_eq_getElem hil])
        have hbt := hin.bufs i ss[i] d.safe[i] (List.getElem?_eq_getElem his') (List.getElem?_eq_getElem hil)
        have hbl : d.safe[i].length = d.size := hgood.sizes _ (List.getElem_mem hil)
        generalize hbe : d.safe[i] = b at *
        obtain ⟨gt, ct, et, _, _⟩ := sv_form hbt (by omega)
        obtain ⟨gr, cr, er, hcr, hel⟩ := rows_form hin.rows (by omega)
        obtain ⟨x0, _⟩ := hel i his'
        have Hc := Lib.hid (fun W (hW : Fr noBlock w W) => clone_any (RowAt.rd (E := 5) (by rw [et] at hbt; exact hbt.fr0 hW)) ct (by omega))
        rw [er] at c5
        rw [et] at x0
        unfold SV.val at c5 x0
        simp only at c5 x0
        simp only [hg, Option.map_none, Option.getD_none, Option.isSome_none] at hlook
        have hl1 : (Instr.lookup 41 (.map (some bm)) (.int .i64 i) true).run Try.prog w = .ok (.tuple #[.slice none 0 0, .bool false]) w := hlook
        have i2 : (i : Int) < (ss.length : Int) := by omega
        clear hlook hin hoff hbt hg his hbl et er hel hbe hnd
        go_enter Try.func16, Try.ntmps16
        go_wp2_with fail
        refine His.out.mono ?_
        rintro e w1 ⟨rfl, rfl⟩
        go_wp2_with fail
        refine (Hc.out _ (Fr.refl _ _)).mono ?_
        rintro e w2 ⟨s, rfl, hsn, hr, hf, hnew⟩
        clear hl1
        go_wp2_with fail
        go_ret2
        rw [Hd.out.1, Hd.out.2]
        exact ⟨s, rfl, hsn, hr, hf, hnew⟩

set_option maxRecDepth 100000 in
set_option maxHeartbeats 800000 in
theorem safe_any {l : Nat} {d : DK} {w : World} {F : Nat → Prop} (h : DiskAt l d w F) (n : Int) : Calls Try.prog 20 #[.pointer (some ⟨l, 0, none⟩), .int .i64 n] w (CloneP (d.safeB n) w) := by
  have His := Lib.hid (is_any h n _ rfl)
  have hgood := h.good
  obtain ⟨acts, part, sv, ss, bm, g, hin⟩ := h
  obtain ⟨c0, c1, c2, c3, c4, c5, c6⟩ := hin.cells
  have hs0 := hgood.s0
  have hs1 := hgood.s1
  have hn1 := hgood.n1
  clear c0 c1 c2 c3 c4 c6
  cases his : d.isS n with
  | false =>
    have Hd := Lib.hid (show d.safeB n = [] by simp [DK.safeB, his])
    rw [his] at His
    clear hin c5
    go_enter Try.func20, Try.ntmps20
    go_wp2_with fail
    refine His.out.mono ?_
    rintro e w1 ⟨rfl, rfl⟩
    go_wp2_with fail
    go_ret
    rw [Hd.out]
    exact ⟨⟨none, 0, 0⟩, rfl, rfl, RowAt.nil, Fr.refl _ _, fun k hk => by cases hk⟩
  | true =>
    rw [his] at His
    obtain ⟨hn0, hnl⟩ := DK.isS_iff.1 his
    obtain ⟨i, hi⟩ : ∃ i : Nat, n = (i : Int) := ⟨n.toNat, by omega⟩
    subst hi
    have hil : i < d.safe.length := by omega
    have his' : i < ss.length := by rw [hin.len]; exact hil
    have Hd := Lib.hid (show d.safeB i = d.safe[i] by simp [DK.safeB, his, List.getD, List.getElem?_eq_getElem hil])
    have hbt := hin.bufs i ss[i] d.safe[i] (List.getElem?_eq_getElem his') (List.getElem?_eq_getElem hil)
    have hbl : d.safe[i].length = d.size := hgood.sizes _ (List.getElem_mem hil)
    generalize hbe : d.safe[i] = b at *
    obtain ⟨gt, ct, et, _, _⟩ := sv_form hbt (by omega)
    obtain ⟨gr, cr, er, hcr, hel⟩ := rows_form hin.rows (by omega)
    obtain ⟨x0, _⟩ := hel i his'
    have Hc := Lib.hid (fun W (hW : Fr noBlock w W) => clone_any (RowAt.rd (E := 5) (by rw [et] at hbt; exact hbt.fr0 hW)) ct (by omega))
    rw [er] at c5
    rw [et] at x0
    unfold SV.val at c5 x0
    simp only at c5 x0
    have i2 : (i : Int) < (ss.length : Int) := by omega
    clear hin hbt his hbl et er hel hbe
    go_enter Try.func20, Try.ntmps20
    go_wp2_with fail
    refine His.out.mono ?_
    rintro e w1 ⟨rfl, rfl⟩
    go_wp2_with fail
    refine (Hc.out _ (Fr.refl _ _)).mono ?_
    rintro e w2 ⟨s, rfl, hsn, hr, hf, hnew⟩
    go_wp2_with fail
    go_ret
    rw [Hd.out]
    exact ⟨s, rfl, hsn, hr, hf, hnew⟩
end Go.Proofs.Ytmcckppmciflmaa
