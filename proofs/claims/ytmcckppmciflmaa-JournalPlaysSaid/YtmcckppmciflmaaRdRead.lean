/-
  THE WALKS of the document's disk: Read, Numbers.
-/
import Derived.Test.YtmcckppmciflmaaDkRead
import Derived.Test.YtmcckppmciflmaaDkDirty
import Derived.Test.YtmcckppmciflmaaRdAt
namespace Go.Proofs.Ytmcckppmciflmaa
open Go.RowKit

/-- the disk's cells of S, D, the size and the part stay -/
def GoesP (l : Nat) (d : DK) (F : Nat → Prop) (w : World) (e : Ending) (w' : World) : Prop := e = .returned (.bool d.gone) ∧ RDiskAt l d.cut w' F ∧ Step F F w w'
set_option maxHeartbeats 400000 in
theorem goes_any {l : Nat} {d : DK} {w : World} {F : Nat → Prop} (h : RDiskAt l d w F) : Calls Try.prog 67 #[.pointer (some ⟨l, 0, none⟩)] w (GoesP l d F w) := by
  obtain ⟨acts, part, sv, dv, ss, ps, hin⟩ := h
  obtain ⟨c0, c1, c2, c3, c4, c5, c6⟩ := hin.cells
  have z3 := free_of hin.box 3
  have z4 := free_of hin.box 4
  have z5 := free_of hin.box 5
  have Hin := Lib.hid hin
  have hgd := hin.good.cut
  have Hgd := Lib.hid hgd
  have Hne := Lib.hid hin.hl
  have Hbox := Lib.hid hin.box
  have hcells := hin.good.arm
  clear c0 c1 c2 c6
  cases ha : d.arm with
  | none =>
    rw [ha] at c4
    simp only [Option.isSome_none] at c4
    have Hd := Lib.hid (show d.cut = d by simp [DK.cut, ha])
    have Hg := Lib.hid (show d.gone = false by simp [DK.gone, ha])
    clear hin hgd ha hcells
    go_enter Try.func67, Try.ntmps67
    go_wp2
    go_ret
    exact ⟨ret_bool Hg.out.symm, by rw [Hd.out]; exact ⟨_, _, _, _, _, _, Hin.out⟩, Step.refl _ _⟩
  | some ap =>
    obtain ⟨a, p⟩ := ap
    obtain ⟨ea, ep⟩ := hin.arm a p ha
    obtain ⟨b1, _, _⟩ := hcells a p ha
    rw [ha] at c4
    simp only [Option.isSome_some] at c4
    rw [ea] at c5
    have Hep := Lib.hid ep
    have Hea := Lib.hid ea
    have Ha := Lib.hid ha
    clear hin hgd ha hcells ea ep
    cases a with
    | zero =>
      have Hd := Lib.hid (show d.cut = { d with off := true, arm := none } by simp [DK.cut, Ha.out])
      have Hg := Lib.hid (show d.gone = true by simp [DK.gone, Ha.out])
      have c5' : w.cell? ⟨l, 5, none⟩ = some (.int .i64 0) := c5
      clear c5
      go_enter Try.func67, Try.ntmps67
      go_wp2
      go_ret
      have hfr : Fr (fun k => k = l) w ((w.setCell ⟨l, 4, none⟩ (.bool false)).setCell ⟨l, 3, none⟩ (.bool true)) := ((Fr.refl (fun k => k = l) w).setCell (p := ⟨l, 4, none⟩) (.inl rfl) _).setCell (p := ⟨l, 3, none⟩) (.inl rfl) _
      have hbx := heap_set_eq (i := 3) (u := .bool true) (heap_set_eq (i := 4) (u := .bool false) Hbox.out)
      refine ⟨ret_bool Hg.out.symm, ?_, ⟨hfr.mono (fun k hk => by subst hk; exact Hne.out), fun _ hk => .inl hk⟩⟩
      rw [Hd.out]
      exact ⟨_, _, _, _, _, _, Hin.out.power hfr (by simpa using hbx) (fun _ _ h => by cases h) (by rw [← Hd.out]; exact Hgd.out)⟩
    | succ a =>
      have Hd := Lib.hid (show d.cut = { d with arm := some (a, p) } by simp [DK.cut, Ha.out])
      have Hg := Lib.hid (show d.gone = false by simp [DK.gone, Ha.out])
      obtain ⟨A, hA⟩ : ∃ A : Int, ((a + 1 : Nat) : Int) = A := ⟨_, rfl⟩
      rw [hA] at c5
      have hA0 : 0 < A := by omega
      have hA1 : A ≤ 9223372036854775807 := by omega
      have hAz : (A == 0) = false := by simp; omega
      have HA := Lib.hid hA
      clear hA b1
      go_enter Try.func67, Try.ntmps67
      go_wp2
      go_ret
      have eA : A - 1 = (a : Int) := by have := HA.out; omega
      have hfr : Fr (fun k => k = l) w (w.setCell ⟨l, 5, none⟩ (.int .i64 (A - 1))) := (Fr.refl (fun k => k = l) w).setCell (p := ⟨l, 5, none⟩) (.inl rfl) _
      have hbx := heap_set_eq (i := 5) (u := .int .i64 (A - 1)) Hbox.out
      refine ⟨ret_bool Hg.out.symm, ?_, ⟨hfr.mono (fun k hk => by subst hk; exact Hne.out), fun _ hk => .inl hk⟩⟩
      rw [Hd.out]
      exact ⟨_, _, _, _, _, _, Hin.out.power hfr (acts' := A - 1) (part' := part) (by simpa [Ha.out] using hbx) (fun a' p' h => by cases h; exact ⟨eA, Hep.out⟩) (by rw [← Hd.out]; exact Hgd.out)⟩

theorem end_any (g : Bool) (w : World) : Calls Try.prog 69 #[.bool g] w fun e w' => e = .returned (.int .i64 (if g then 30 else 0)) ∧ w = w' := by
  cases g
  all_goals
    go_enter Try.func69, Try.ntmps69
    go_wp2
    go_ret
    exact ⟨rfl, rfl⟩
set_option maxHeartbeats 400000 in
theorem mod_any (n k : Int) (w : World) (hk0 : 0 < k) (hk1 : k ≤ 4611686018427387904) : Calls Try.prog 68 #[.int .i64 n, .int .i64 k] w fun e w' => e = .returned (.int .i64 (n % k)) ∧ w = w' := by
  have ht := Int.lt_tmod_of_pos n hk0
  have hu := Int.tmod_lt_of_pos n hk0
  have hs := tmod_shift (n := n) hk0
  rcases Int.lt_or_le (n.tmod k) 0 with hl | hl
  · have hw : wrap64 (n.tmod k + k) = n.tmod k + k := IntWalk.wrap64_in _ (by omega)
    have hq : n % k = n.tmod k + k := by rw [← hs, Int.tmod_eq_of_lt (by omega) (by omega)]
    have Hw := Lib.hid hw
    have Hq := Lib.hid hq
    clear ht hu hs hw hq hk1
    go_enter Try.func68, Try.ntmps68
    go_wp2
    go_ret
    exact ⟨ret_int (by rw [Hq.out]; first | exact Hw.out | rfl), rfl⟩
  · have hq : n % k = n.tmod k := by rw [← hs, Int.tmod_eq_emod_of_nonneg (by omega), Int.add_emod_right, Int.emod_eq_of_lt hl hu]
    have Hq := Lib.hid hq
    clear ht hu hs hq hk1
    go_enter Try.func68, Try.ntmps68
    go_wp2
    go_ret
    exact ⟨ret_int Hq.out.symm, rfl⟩

set_option maxHeartbeats 400000 in
theorem rarm_any {l : Nat} {d : DK} {w : World} {F : Nat → Prop} (h : RDiskAt l d w F) (a p : Int) (ha : a ≤ 9223372036854775807) (hp0 : -9223372036854775808 ≤ p) (hp1 : p ≤ 9223372036854775807) :
    Calls Try.prog 48 #[.pointer (some ⟨l, 0, none⟩), .int .i64 a, .int .i64 p] w fun e w' => e = .returned (.tuple #[]) ∧ RDiskAt l (d.armed a p) w' F ∧ Step F F w w' := by
  obtain ⟨acts, part, sv, dv, ss, ps, hin⟩ := h
  obtain ⟨c0, c1, c2, c3, c4, c5, c6⟩ := hin.cells
  have z4 := free_of hin.box 4
  have z5 := free_of hin.box 5
  have z6 := free_of hin.box 6
  have Hin := Lib.hid hin
  have Hg := Lib.hid (hin.good.armed ha hp0 hp1)
  have Hne := Lib.hid hin.hl
  have Hbox := Lib.hid hin.box
  clear hin c0 c1 c2 c3 ha hp0 hp1
  go_enter Try.func48, Try.ntmps48
  go_wp2
  go_end0
  have hfr := (((Fr.refl (fun k => k = l) w).setCell (p := ⟨l, 4, none⟩) (.inl rfl) (.bool (decide (0 ≤ a)))).setCell (p := ⟨l, 5, none⟩) (.inl rfl) (.int .i64 a)).setCell (p := ⟨l, 6, none⟩) (.inl rfl) (.int .i64 p)
  have hbx := heap_set_eq (i := 6) (u := .int .i64 p) (heap_set_eq (i := 5) (u := .int .i64 a) (heap_set_eq (i := 4) (u := .bool (decide (0 ≤ a))) Hbox.out))
  refine ⟨rfl, ⟨_, _, _, _, _, _, Hin.out.power hfr (arm := if 0 ≤ a then some (a.toNat, p) else none) (acts' := a) (part' := p) ?_ ?_ Hg.out⟩, ⟨hfr.mono (fun k hk => by subst hk; exact Hne.out), fun _ hk => .inl hk⟩⟩
  · rw [hbx]
    by_cases h0 : 0 ≤ a <;> simp [h0]
  · intro a' p' h
    by_cases h0 : 0 ≤ a
    · rw [if_pos h0] at h
      cases h
      exact ⟨by omega, rfl⟩
    · rw [if_neg h0] at h; cases h
end Go.Proofs.Ytmcckppmciflmaa
namespace Go.Proofs.Ytmcckppmciflmaa
open Go.RowKit

theorem dirt_rd {w : World} {b off : Nat} {ps : List (Int × SV)} (h : RowRd DirtR w (some ⟨b, off, none⟩) ps) {i : Nat} (hi : i < ps.length) : w.cell? ⟨b, off + i * 2, none⟩ = some (.int .i64 ps[i].1) ∧ w.cell? ⟨b, off + i * 2 + 1, none⟩ = some ps[i].2.val := by
  obtain ⟨b', off', e, _, h3⟩ := h.at' i hi
  cases e
  have h0 := h3 0 (.int .i64 ps[i].1) rfl
  have h1 := h3 1 ps[i].2.val rfl
  rw [dirtK] at h0 h1
  exact ⟨h0, h1⟩
theorem slice_rd {w : World} {b off : Nat} {ss : List SV} (h : RowRd SliceR w (some ⟨b, off, none⟩) ss) {i : Nat} (hi : i < ss.length) : w.cell? ⟨b, off + i, none⟩ = some ss[i].val := by
  obtain ⟨b', off', e, _, h3⟩ := h.at' i hi
  cases e
  have := h3 0 ss[i].val rfl
  have hk : SliceR.k = 1 := rfl
  simpa [hk] using this
/-- the forms of the two rows -/
theorem RDiskIn.forms {l : Nat} {d : DK} {w : World} {F : Nat → Prop} {acts part : Int} {sv dv : SV} {ss : List SV} {ps : List (Int × SV)} (h : RDiskIn l d w F acts part sv dv ss ps) :
    ∃ sa sc da dc, sv = ⟨sa, ss.length, sc⟩ ∧ dv = ⟨da, ps.length, dc⟩ ∧ ss.length ≤ 4096 ∧ ps.length ≤ 4096 ∧ RowRd SliceR w sa ss ∧ RowRd DirtR w da ps := by
  have hn1 := h.good.n1
  have hl := h.len
  have hdl := h.dlen
  have hdd := dirt_len h.good
  obtain ⟨sa, sn, sc⟩ := sv
  obtain ⟨da, dn, dc⟩ := dv
  have h1 : sn = ss.length := RowAt.len h.rows
  have h2 : dn = ps.length := RowAt.len h.drow
  subst h1 h2
  have hm : 4096 ≤ maxLen := by unfold maxLen; omega
  exact ⟨sa, sc, da, dc, rfl, rfl, by omega, by omega, RowRd.of_at h.rows (by omega), RowRd.of_at h.drow (by omega)⟩
theorem RDiskIn.dirt_at {l : Nat} {d : DK} {w : World} {F : Nat → Prop} {acts part : Int} {sv dv : SV} {ss : List SV} {ps : List (Int × SV)} (h : RDiskIn l d w F acts part sv dv ss ps) {i : Nat} (hi : i < ps.length) :
    ∃ q, d.dirty[i]? = some q ∧ ps[i].1 = q.1 ∧ q.1 < d.safe.length ∧ q.2.length = d.size ∧ lookD d.dirty q.1 = some q.2 ∧ Buf w F ps[i].2 q.2 := by
  have hq : i < d.dirty.length := by rw [← h.dlen]; exact hi
  obtain ⟨e1, b1⟩ := h.dbufs i ps[i] d.dirty[i] (List.getElem?_eq_getElem hi) (List.getElem?_eq_getElem hq)
  have hm := List.getElem_mem hq
  exact ⟨d.dirty[i], List.getElem?_eq_getElem hq, e1, (h.good.there _ hm).1, (h.good.there _ hm).2, lookD_of_mem h.good.rise hm, b1⟩

set_option maxRecDepth 100000 in
set_option maxHeartbeats 1600000 in
theorem rread_any {l : Nat} {d : DK} {w : World} {F : Nat → Prop} (h : RDiskAt l d w F) (n : Int) : Calls Try.prog 47 #[.pointer (some ⟨l, 0, none⟩), .int .i64 n] w (ReadP (d.readB n) (d.readE n) w) := by
  have hgood := h.good
  obtain ⟨acts, part, sv, dv, ss, ps, hin⟩ := h
  obtain ⟨c0, c1, c2, c3, c4, c5, c6⟩ := hin.cells
  have hs0 := hgood.s0
  have hs1 := hgood.s1
  obtain ⟨sa, sc, da, dc, rfl, rfl, hsl, hdl, hsr, hdr⟩ := hin.forms
  unfold SV.val at c0 c1
  simp only at c0 c1
  have hlen := hin.len
  clear c2 c4 c5 c6
  cases hoff : d.off with
  | true =>
    rw [hoff] at c3
    have Hd := Lib.hid (show d.readB n = [] ∧ d.readE n = 30 by simp [DK.readB, DK.readE, hoff])
    clear hin hoff c0 c1 hsr hdr
    go_enter Try.func47, Try.ntmps47
    go_wp2_with fail
    go_ret2
    rw [Hd.out.1, Hd.out.2]
    exact read_nil rfl (Fr.refl _ _)
  | false =>
    rw [hoff] at c3
    cases his : d.isS n with
    | false =>
      have Hd := Lib.hid (show d.readB n = [] ∧ d.readE n = 31 by simp [DK.readB, DK.readE, hoff, his])
      have hcs : n < 0 ∨ (0 ≤ n ∧ (ss.length : Int) ≤ n) := by simp [DK.isS] at his; omega
      clear hin hoff c1 hsr hdr his
      rcases hcs with q | ⟨q, q2⟩
      all_goals
        go_enter Try.func47, Try.ntmps47
        go_wp2_with fail
        go_ret2
        rw [Hd.out.1, Hd.out.2]
        exact read_nil rfl (Fr.refl _ _)
    | true =>
      obtain ⟨hn0, hnl⟩ := DK.isS_iff.1 his
      obtain ⟨k, hk⟩ : ∃ k : Nat, n = (k : Int) := ⟨n.toNat, by omega⟩
      have hks : k < ss.length := by omega
      have hnl' : n < (ss.length : Int) := by omega
      have Hd := Lib.hid (show d.readE n = 0 ∧ d.readB n = (lookD d.dirty n).getD (d.safe.getD n.toNat []) by simp [DK.readB, DK.readE, hoff, his])
      have hll := heap_lt hin.box
      have Hin := Lib.hid hin
      have Hgood := Lib.hid hgood
      have Hk := Lib.hid hk
      have HN := Lib.hid (show ∀ j q, j < 0 → d.dirty[j]? = some q → (q.1 : Int) ≠ n from fun j q h => by omega)
      clear hoff his hnl hin hgood hk
      go_enter Try.func47, Try.ntmps47
      go_wp2_with fail
      go_loopw [6] (fun s6 wr => ∃ i : Nat, i ≤ ps.length ∧ s6 = .int .i64 i ∧ wr = w ∧ Hid (∀ j q, j < i → d.dirty[j]? = some q → (q.1 : Int) ≠ n)) (fun s6 _ => ps.length - (intOf s6).toNat)
      case atStart => exact ⟨0, Nat.zero_le _, rfl, rfl, HN⟩
      case round =>
        obtain ⟨i, hi, rfl, rfl, HI⟩ := hrel
        clear HN
        by_cases hlt : i < ps.length
        · have q1 : (i : Int) < (ps.length : Int) := by omega
          obtain ⟨bb, off, rfl, hbl, _⟩ := hdr.at' i hlt
          obtain ⟨y0, y1⟩ := dirt_rd hdr hlt
          obtain ⟨q, hq, e1, _, hql, hlook, hbuf⟩ := Hin.out.dirt_at hlt
          generalize ps[i] = p at *
          obtain ⟨pn, a2, n2, c2⟩ := p
          have hn2 : n2 = q.2.length := RowAt.len hbuf.row
          subst hn2
          unfold SV.val at y1
          simp only at y0 y1 e1
          have Hq := Lib.hid (And.intro hq e1)
          have Hr := Lib.hid (RowAt.rd hbuf.row)
          have Hlook := Lib.hid hlook
          have hql' : q.2.length ≤ 4096 := by omega
          clear hq e1 hbuf hlook hlt hql
          cases hb : (pn == n) with
          | true =>
            have hr : d.readB n = q.2 := by
              have e : pn = n := by simpa using hb
              rw [Hd.out.2, ← e, Hq.out.2, Hlook.out]; rfl
            have Hrb := Lib.hid hr
            have a1 := fun o => (World.cell?_alloc_lt wr o ⟨l, 1, none⟩ hll).trans c1
            have a2' := fun o => (World.cell?_alloc_lt wr o ⟨bb, _, none⟩ hbl).trans y0
            have a3 := fun o => (World.cell?_alloc_lt wr o ⟨bb, _, none⟩ hbl).trans y1
            clear hr
            go_wp2_with (at_builtin; apply stop_here)
            refine ⟨?_, trivial⟩
            refine wpList_app rfl _ _ rfl el_bytes (v := .slice (some ⟨wr.heap.size, 0, none⟩) 0 0) [] q.2 q.2 rfl wr.heap.size 0 q.2.length rfl rfl (World.ownsRow_made wr #[] 0 (Nat.le_refl _) (Nat.zero_le _) rfl) rfl (Hr.out.fr0 ((Fr.refl _ _).alloc _)) rfl (by unfold maxLen; omega) (by omega) (by simp) ?_
            intro ao2 cap2 w2 o2 g2 _
            go_frame
            have O2 := Lib.hid o2
            have hf := (((Fr.refl noBlock wr).alloc (.cells #[] 5)).grown g2 (fun k hk => by simp [Value.ownBlock] at hk; subst hk; exact .inr (Nat.le_refl _)))
            have Hf := Lib.hid hf
            clear o2 g2 hf
            go_wp2_with fail
            go_ret2
            rw [Hd.out.1, Hrb.out]
            exact ⟨⟨ao2, q.2.length, cap2⟩, rfl, rfl, RowAt.of_own O2.out rfl, Hf.out, fun k hk => (O2.out.lt k hk).1⟩
          | false =>
            have HI2 := Lib.hid (show ∀ j q', j < i + 1 → d.dirty[j]? = some q' → (q'.1 : Int) ≠ n from fun j q' hj he => by
              by_cases e : j = i
              · subst e
                rw [Hq.out.1] at he
                cases he
                rw [← Hq.out.2]
                simpa using hb
              · exact HI.out j q' (by omega) he)
            go_wp2_with fail
            go_roundw
            case rel => exact ⟨i + 1, by omega, by go_num, trivial, HI2⟩
            case measure => simp [intOf]; omega
        · have q1 : (ps.length : Int) ≤ (i : Int) := by omega
          obtain ⟨bb, off, rfl, hbl', _⟩ := hsr.at' k hks
          have y0 := slice_rd hsr hks
          have hkd : k < d.safe.length := by omega
          have hbuf := Hin.out.bufs k ss[k] d.safe[k] (List.getElem?_eq_getElem hks) (List.getElem?_eq_getElem hkd)
          have hbl : d.safe[k].length = d.size := Hgood.out.sizes _ (List.getElem_mem hkd)
          have hr : d.readB n = d.safe[k] := by
            have hno : lookD d.dirty n = none := lookD_none.2 (fun p hp => by
              obtain ⟨j, hj, rfl⟩ := List.getElem_of_mem hp
              exact HI.out j _ (by have := Hin.out.dlen; omega) (List.getElem?_eq_getElem hj))
            rw [Hd.out.2, hno, Hk.out]
            simp [List.getD, List.getElem?_eq_getElem hkd]
          generalize d.safe[k] = b at *
          generalize ss[k] = s at *
          obtain ⟨a2, n2, c2⟩ := s
          have hn2 : n2 = b.length := RowAt.len hbuf.row
          subst hn2
          unfold SV.val at y0
          simp only at y0
          have Hr := Lib.hid (RowAt.rd hbuf.row)
          have Hrb := Lib.hid hr
          have hk' := Hk.out
          subst hk'
          have a1 := fun o => (World.cell?_alloc_lt wr o ⟨l, 0, none⟩ hll).trans c0
          have a3 := fun o => (World.cell?_alloc_lt wr o ⟨bb, _, none⟩ hbl').trans y0
          have hbl4 : b.length ≤ 4096 := by omega
          clear hr hbuf hlt hbl
          go_wp2_with (at_builtin; apply stop_here)
          refine ⟨?_, trivial⟩
          refine wpList_app rfl _ _ rfl el_bytes (v := .slice (some ⟨wr.heap.size, 0, none⟩) 0 0) [] b b rfl wr.heap.size 0 b.length rfl rfl (World.ownsRow_made wr #[] 0 (Nat.le_refl _) (Nat.zero_le _) rfl) rfl (Hr.out.fr0 ((Fr.refl _ _).alloc _)) rfl (by unfold maxLen; omega) (by omega) (by simp) ?_
          intro ao2 cap2 w2 o2 g2 _
          go_frame
          have O2 := Lib.hid o2
          have hf := (((Fr.refl noBlock wr).alloc (.cells #[] 5)).grown g2 (fun k hk => by simp [Value.ownBlock] at hk; subst hk; exact .inr (Nat.le_refl _)))
          have Hf := Lib.hid hf
          clear o2 g2 hf
          go_wp2_with fail
          go_ret2
          rw [Hd.out.1, Hrb.out]
          exact ⟨⟨ao2, b.length, cap2⟩, rfl, rfl, RowAt.of_own O2.out rfl, Hf.out, fun k hk => (O2.out.lt k hk).1⟩

set_option maxRecDepth 100000 in
set_option maxHeartbeats 1600000 in
theorem numbers_any {l : Nat} {d : DK} {w : World} {F : Nat → Prop} (h : RDiskAt l d w F) : Calls Try.prog 50 #[.pointer (some ⟨l, 0, none⟩)] w (DirtyP d.dirty w) := by
  obtain ⟨acts, part, sv, dv, ss, ps, hin⟩ := h
  obtain ⟨c0, c1, c2, c3, c4, c5, c6⟩ := hin.cells
  obtain ⟨sa, sc, da, dc, rfl, rfl, hsl, hdl, hsr, hdr⟩ := hin.forms
  unfold SV.val at c1
  simp only at c1
  have hns : ps.map Prod.fst = dirtNs d.dirty := by
    apply List.ext_getElem
    · simp [dirtNs, hin.dlen]
    · intro i h1 h2
      have hi : i < ps.length := by simpa using h1
      have hq : i < d.dirty.length := by rw [← hin.dlen]; exact hi
      have := (hin.dbufs i ps[i] d.dirty[i] (List.getElem?_eq_getElem hi) (List.getElem?_eq_getElem hq)).1
      simpa [dirtNs] using this
  have Hns := Lib.hid hns
  have Hdl := Lib.hid hin.dlen
  have hll := heap_lt hin.box
  have Hdr := Lib.hid hdr
  have C1 := Lib.hid c1
  clear hin c0 c2 c3 c4 c5 c6 hsr hns hdr
  go_enter Try.func50, Try.ntmps50
  go_wp2_with fail
  clear c1
  go_loopw [3, 4] (fun s3 s4 wr => ∃ (i : Nat) (ao : Option Addr) (cap : Nat), i ≤ ps.length ∧ s4 = .int .i64 i ∧ s3 = .slice ao i cap ∧ wr.ownsRow w.heap.size 3 IntR.k (.slice ao i cap) i (IntR.flat ((ps.take i).map Prod.fst)) ∧ Fr noBlock w wr) (fun _ s4 _ => ps.length - (intOf s4).toNat)
  case atStart => exact ⟨0, none, 0, Nat.zero_le _, rfl, rfl, World.ownsRow_nil _ _ _ _, Fr.refl _ _⟩
  case round =>
    obtain ⟨i, ao, cap, hi, rfl, rfl, hrow, hf⟩ := hrel
    have c1 := (hf.cell (p := ⟨l, 1, none⟩) hll (fun x => x)).trans C1.out
    have Hf := Lib.hid hf
    have Hrow := Lib.hid hrow
    have hsz := hf.size
    clear hf hrow
    by_cases hlt : i < ps.length
    · have q1 : (i : Int) < (ps.length : Int) := by omega
      have hdr := Hdr.out.fr0 Hf.out
      obtain ⟨bb, off, rfl, _, _⟩ := hdr.at' i hlt
      obtain ⟨y0, _⟩ := dirt_rd hdr hlt
      have hzs : (ps.take i).map Prod.fst ++ [ps[i].1] = (ps.take (i + 1)).map Prod.fst := by rw [List.take_succ_eq_append_getElem hlt, List.map_append]; rfl
      have Hzs := Lib.hid hzs
      have hln : ((ps.take (i + 1)).map Prod.fst).length = i + 1 := by simp; omega
      have Hln := Lib.hid hln
      generalize ps[i] = p at *
      clear hdr hzs hln hlt
      go_wp2_with (at_builtin; apply stop_here)
      refine ⟨?_, trivial⟩
      refine wpList_app rfl _ _ rfl el_ints (v := .slice ao i cap) ((ps.take i).map Prod.fst) [p.1] ((ps.take (i + 1)).map Prod.fst) Hzs.out w.heap.size i (i + 1) Hln.out.symm rfl (Hrow.out.alloc _) rfl (RowRd.one (heap_new wr _) p.1 rfl) rfl (by unfold maxLen; omega) (by omega) (by simp; omega) ?_
      intro ao3 cap3 w3 o3 g3 _
      go_frame
      have O3 := Lib.hid o3
      have Hf3 := Lib.hid ((Hf.out.alloc _).grown g3 (fun k hk => .inr (Hrow.out.lt k hk).1))
      clear o3 g3
      go_wp2_with fail
      go_roundw
      case rel => exact ⟨i + 1, ao3, cap3, by omega, by go_num, rfl, O3.out, Hf3.out⟩
      case measure => simp [intOf]; omega
    · have q1 : (ps.length : Int) ≤ (i : Int) := by omega
      have e : i = ps.length := by omega
      subst e
      clear hlt
      go_wp2_with fail
      go_ret
      have ht : (ps.take ps.length).map Prod.fst = dirtNs d.dirty := by rw [List.take_length]; exact Hns.out
      have hr := Hrow.out
      rw [ht] at hr
      have hl2 : (dirtNs d.dirty).length = ps.length := by rw [← Hns.out]; simp
      refine ⟨ao, cap, by rw [← Hdl.out]; rfl, by rw [← Hdl.out]; exact RowAt.of_own hr hl2.symm, Hf.out, fun k hk => (hr.lt k (by rw [← Hdl.out] at hk; exact hk)).1⟩
end Go.Proofs.Ytmcckppmciflmaa
