/-
  THE WALK of the document's disk: Flush.
-/
import Derived.BigRegion
import Derived.Test.YtmcckppmciflmaaRdRead
import Derived.Test.YtmcckppmciflmaaDkFlush
namespace Go.Proofs.Ytmcckppmciflmaa
open Go.RowKit

theorem RDiskIn.forms2 {l : Nat} {d : DK} {w : World} {F : Nat → Prop} {acts part : Int} {sv dv : SV} {ss : List SV} {ps : List (Int × SV)} (h : RDiskIn l d w F acts part sv dv ss ps) :
    ∃ da dc, dv = ⟨da, d.dirty.length, dc⟩ ∧ d.dirty.length ≤ 4096 ∧ d.dirty.length ≤ dc ∧ dc ≤ maxLen ∧ RowRd DirtR w da ps ∧ ((da = none ∧ ps = [] ∧ dc = 0) ∨ ∃ g, da = some ⟨g, 0, none⟩) := by
  obtain ⟨sa, sc, da, dc, rfl, rfl, hsl, hdl, hsr, hdr⟩ := h.forms
  have hdl' := h.dlen
  obtain ⟨ao, cap, e, h1, h2, h3, h4⟩ := h.drow.shape
  simp only [SV.val, Value.slice.injEq] at e
  obtain ⟨rfl, _, rfl⟩ := e
  refine ⟨da, dc, by rw [hdl'], by omega, by omega, h2, hdr, ?_⟩
  cases da with
  | none => exact .inl ⟨rfl, h4 rfl⟩
  | some a =>
    obtain ⟨g, rfl, _⟩ := h3 a rfl
    exact .inr ⟨g, rfl⟩
theorem RDiskIn.s_form {l : Nat} {d : DK} {w : World} {F : Nat → Prop} {acts part : Int} {sv dv : SV} {ss : List SV} {ps : List (Int × SV)} (h : RDiskIn l d w F acts part sv dv ss ps) (h0 : 0 < d.safe.length) :
    ∃ g cap, sv = ⟨some ⟨g, 0, none⟩, d.safe.length, cap⟩ ∧ ∀ i, (hi : i < ss.length) → w.cell? ⟨g, i, none⟩ = some ss[i].val ∧ w.frozen? ⟨g, i, none⟩ = false := by
  have hl := h.len
  obtain ⟨g, cap, rfl, _, h2⟩ := rows_form h.rows (by omega)
  exact ⟨g, cap, by rw [hl], h2⟩
theorem slice_set {w : World} {g n cap : Nat} {ss : List SV} (h : RowAt 23 SliceR w (.slice (some ⟨g, 0, none⟩) n cap) ss) {i : Nat} (hi : i < ss.length) (c : SV) : RowAt 23 SliceR (w.setCell ⟨g, i, none⟩ c.val) (.slice (some ⟨g, 0, none⟩) n cap) (ss.set i c) := by
  have hk : SliceR.k = 1 := rfl
  have := h.set (u := c.val) hi (j := 0) (by decide) c rfl
  simpa [hk] using this

/-- some have landed; all are dirty still -/
def DK.sl (d : DK) (i : Nat) : DK := { d with safe := landL d.safe ((d.dirty.take i).map (fun p => (p.1, p.2, d.size))) }
theorem sl_zero (d : DK) : d.sl 0 = d := by simp [DK.sl, landL]
theorem sl_len (d : DK) (i : Nat) : (d.sl i).safe.length = d.safe.length := landL_len _ _
theorem sl_step {d : DK} (h : d.Good) {i : Nat} (hg : (d.sl i).Good) {q : Nat × Bs} (hq : d.dirty[i]? = some q) : d.sl (i + 1) = { d.sl i with safe := (d.sl i).safe.set q.1 q.2 } := by
  obtain ⟨hi, rfl⟩ := List.getElem?_eq_some_iff.1 hq
  have hm := h.there _ (List.getElem_mem hi)
  have e : d.dirty[i].2.take d.size ++ ((d.sl i).safe.getD d.dirty[i].1 []).drop d.size = d.dirty[i].2 := by
    have hl : d.dirty[i].1 < (d.sl i).safe.length := by rw [sl_len]; exact hm.1
    have hs : ((d.sl i).safe.getD d.dirty[i].1 []).length = d.size := by
      simp only [List.getD, List.getElem?_eq_getElem hl, Option.getD_some]
      exact hg.sizes _ (List.getElem_mem hl)
    rw [List.take_of_length_le (by omega), List.drop_of_length_le (by omega), List.append_nil]
  conv => lhs; unfold DK.sl
  rw [List.take_succ_eq_append_getElem hi, List.map_append, List.map_singleton, landL_snoc]
  show ({ d with safe := (d.sl i).safe.set d.dirty[i].1 (d.dirty[i].2.take d.size ++ ((d.sl i).safe.getD d.dirty[i].1 []).drop d.size) } : DK) = _
  rw [e]
  rfl
theorem sl_fl (d : DK) (K : Nat) : d.fl K = { d.sl K with dirty := d.dirty.drop K } := rfl

def RFlushP (l : Nat) (d' : DK) (x : Int) (F : Nat → Prop) (w : World) (e : Ending) (w' : World) : Prop := ∃ F', e = .returned (.int .i64 x) ∧ RDiskAt l d' w' F' ∧ Step F F' w w'
set_option maxRecDepth 100000 in
set_option maxHeartbeats 1600000 in
theorem rflush_any {l : Nat} {d : DK} {w : World} {F : Nat → Prop} (h : RDiskAt l d w F) : Calls Try.prog 46 #[.pointer (some ⟨l, 0, none⟩)] w (RFlushP l d.flush d.flushE F w) := by
  have H := Lib.hid h
  have hgood := h.good
  have hdl := dirt_len hgood
  have hn1 := hgood.n1
  cases hoff : d.off with
  | true =>
    obtain ⟨acts, part, sv, dv, ss, ps, hin⟩ := h
    obtain ⟨c0, c1, c2, c3, c4, c5, c6⟩ := hin.cells
    rw [hoff] at c3
    have Hd := Lib.hid (show d.flush = d ∧ d.flushE = 30 by simp [DK.flush, DK.flushE, hoff])
    clear hgood hin hoff c0 c1 c2 c4 c5 c6
    go_enter Try.func46, Try.ntmps46
    go_wp2_with fail
    go_ret
    exact ⟨F, ret_int Hd.out.2.symm, by rw [Hd.out.1]; exact H.out, Step.refl _ _⟩
  | false =>
    have Hd := Lib.hid (show d.flush = d.cut.fl d.flushN ∧ d.flushE = if d.gone then 30 else 0 from ⟨fl_flush hoff, by simp [DK.flushE, hoff]⟩)
    have hgf := hgood.flush
    rw [Hd.out.1] at hgf
    have hcut := Lib.hid (goes_any h)
    have hgc := hgood.cut
    obtain ⟨acts, part, sv, dv, ss, ps, hin⟩ := h
    obtain ⟨c0, c1, c2, c3, c4, c5, c6⟩ := hin.cells
    rw [hoff] at c3
    have hp1 : d.gone = true → d.flushN = (part % ((d.dirty.length : Int) + 1)).toNat := by
      intro hg
      unfold DK.gone at hg
      unfold DK.flushN
      split at hg
      · rename_i p hp
        obtain ⟨_, e⟩ := hin.arm _ _ hp
        first | rw [e] | (rw [hp]; simp [e])
      · cases hg
    have hp2 : d.gone = false → d.flushN = d.dirty.length := by
      intro hg
      unfold DK.gone at hg
      unfold DK.flushN
      split
      · rename_i p hp; first | (rw [hp] at hg; cases hg) | cases hg
      · rfl
    obtain ⟨e1, e2, e3⟩ := d.cut_same
    obtain ⟨K, hK⟩ : ∃ K, d.flushN = K := ⟨_, rfl⟩
    have hKl : K ≤ d.dirty.length := by rw [← hK]; exact d.flushN_le
    obtain ⟨dk, hdk⟩ : ∃ dk, d.cut = dk := ⟨_, rfl⟩
    rw [hK] at Hd hp1 hp2 hgf
    rw [hdk] at Hd e1 e2 e3 hgc hgf
    unfold GoesP at hcut
    rw [hdk] at hcut
    have Hp1 := Lib.hid hp1
    have Hp2 := Lib.hid hp2
    have Hgc := Lib.hid hgc
    have Hgf := Lib.hid hgf
    have E3 := Lib.hid e3
    have E2 := Lib.hid e2
    have C6 := Lib.hid c6
    clear hgood hgc hgf hin hoff hK hdk hp1 hp2 c0 c1 c2 c4 c5 e1 e2 e3
    have hll : l < w.heap.size := Lib.hid (RDiskAt.ok.lt H.out l (by obtain ⟨_, _, _, _, _, _, hin⟩ := H.out; exact hin.hl)) |>.out
    cases hg : d.gone
    all_goals
      rw [hg] at hcut Hp1 Hp2 Hd
      go_enter Try.func46, Try.ntmps46
      go_wp2_with fail
      refine hcut.out.mono ?_
      rintro e w1 ⟨rfl, h1, s1⟩
      obtain ⟨acts1, part1, sv1, dv1, ss1, ps1, hin1⟩ := h1
      have x1 := hin1.cells.2.1
      obtain ⟨da, dc, e, _⟩ := hin1.forms2
      rw [e] at x1
      unfold SV.val at x1
      simp only at x1
      rw [E3.out] at x1
      have H1 := Lib.hid (show RDiskAt l dk w1 F from ⟨_, _, _, _, _, _, hin1⟩)
      have S1 := Lib.hid s1
      first
        | (have hk : K = d.dirty.length := by first | exact Hp2.out rfl | exact Hp2.out trivial
           rw [← hk] at x1
           clear hk)
        | skip
      clear hin1 s1 e c3 c6
      go_wp2_with fail
    · skip
      clear x1
      go_loopw [6] (fun s6 wr => ∃ (i : Nat) (G : Nat → Prop), i ≤ K ∧ s6 = .int .i64 i ∧ RDiskAt l (dk.sl i) wr G ∧ Step F G w wr) (fun s6 _ => K - (intOf s6).toNat)
      case atStart => exact ⟨0, F, Nat.zero_le _, rfl, by rw [sl_zero]; exact H1.out, S1.out⟩
      case round =>
        obtain ⟨i, G, hi, rfl, hA, hS⟩ := hrel
        have HS := Lib.hid hS
        have HA := Lib.hid hA
        obtain ⟨acts, part, sv, dv, ss, ps, hin⟩ := hA
        clear hS
        have hdl3 : (dk.sl i).dirty = d.dirty := E3.out
        have hsl3 : (dk.sl i).safe.length = d.safe.length := by rw [sl_len, E2.out]
        obtain ⟨c0, c1, _, _, _, _, _⟩ := hin.cells
        obtain ⟨da, dc, rfl, _, hdc, hdcm, hdr, hshape⟩ := hin.forms2
        unfold SV.val at c1
        simp only at c1
        rw [hdl3] at c1 hdc
        have hpl : ps.length = d.dirty.length := by rw [hin.dlen, hdl3]
        by_cases hlt : i < K
        · have q1 : (i : Int) < (K : Int) := by omega
          have hid : i < d.dirty.length := by omega
          have q2 : (i : Int) < (d.dirty.length : Int) := by omega
          have hip : i < ps.length := by omega
          obtain ⟨bb, off, rfl, hbl, _⟩ := hdr.at' i hip
          obtain ⟨y0, y1⟩ := dirt_rd hdr hip
          obtain ⟨q, hq, eq1, hqs, hql, _, hbuf⟩ := hin.dirt_at hip
          obtain ⟨gs, cs, rfl, hel⟩ := hin.s_form (by omega)
          have hqs' : q.1 < ss.length := by rw [hin.len]; exact hqs
          obtain ⟨x0, z0⟩ := hel q.1 hqs'
          unfold SV.val at c0
          simp only at c0
          rw [hsl3] at c0
          rw [hsl3] at hqs
          have hqI : (q.1 : Int) < (d.safe.length : Int) := by omega
          rw [eq1] at y0
          have hset := slice_set hin.rows hqs' ps[i].2
          generalize ps[i] = p at *
          obtain ⟨pn, a2, n2, c2⟩ := p
          have hstep := sl_step Hgc.out HA.out.good (i := i) hq
          have Hstep := Lib.hid hstep
          have Hset := Lib.hid hset
          have Hbuf := Lib.hid hbuf
          have Hql := Lib.hid hql
          have Hin := Lib.hid hin
          unfold SV.val at y1 x0
          simp only at y0 y1 x0
          generalize ss[q.1] = s0 at *
          clear hin hdr hel hq hlt hstep hset hbuf hql hdl3 hsl3 hpl eq1 hshape HA
          go_wp2_with fail
          go_region
          have hfr := (Fr.refl (fun k => k = gs) wr).setCell (p := ⟨gs, q.1, none⟩) (.inl rfl) (.slice a2 n2 c2)
          have HL := Lib.hid (Hin.out.land (n := q.1) (nb := q.2) (s' := ⟨a2, n2, c2⟩) Hql.out (B := gs) rfl hfr Hset.out (Hbuf.out.keep hfr (fun k hk => by subst hk; exact Hin.out.no_rows rfl) (fun _ x => x)).row (fun k hk => .inl (Hbuf.out.own k hk)))
          clear hfr
          go_wp2_with fail
          go_roundw
          case rel => exact ⟨i + 1, _, by omega, by go_num, by rw [Hstep.out]; exact ⟨_, _, _, _, _, _, HL.out.1.fr ((Fr.refl _ _).drew) (fun _ _ x => x)⟩, HS.out.trans (HL.out.2.news ((Fr.refl noBlock _).drew) (fun _ x => x.elim))⟩
          case measure => simp [intOf]; omega
        · have q1 : (K : Int) ≤ (i : Int) := by omega
          have e : K = i := by omega
          subst e
          have q2 : (K : Int) ≤ (d.dirty.length : Int) := by omega
          have q3 : (d.dirty.length : Int) ≤ (dc : Int) := by omega
          have hll2 := heap_lt hin.box
          have z1 := free_of hin.box 1
          have Hin := Lib.hid hin
          have Hdr := Lib.hid hdr
          have Hpl := Lib.hid hpl
          clear hin hdr hpl hlt hsl3 hdl3 c0
          rcases hshape with ⟨rfl, hps, rfl⟩ | ⟨gd, rfl⟩
          · have hz : d.dirty.length = 0 := by rw [← Hpl.out, hps]; rfl
            have hK0 : 0 = K := by omega
            rw [hz] at c1
            have a1 := fun o => (World.cell?_alloc_lt wr o ⟨l, 1, none⟩ hll2).trans c1
            have Hrd := Lib.hid (show RowRd DirtR (wr.alloc (.cells #[] 111)) none (ps.drop K) by rw [hps]; simp; exact RowRd.nil)
            clear hps
            subst hK0
            go_wp2_with (at_builtin; apply stop_here)
            refine ⟨?_, trivial⟩
            refine wpList_app rfl _ _ rfl el_dirts (v := .slice (some ⟨wr.heap.size, 0, none⟩) 0 0) [] (ps.drop 0) (ps.drop 0) rfl wr.heap.size 0 0 (by rw [List.length_drop]; have := Hpl.out; omega) rfl (World.ownsRow_made wr #[] 0 (Nat.le_refl _) (Nat.zero_le _) rfl) rfl Hrd.out (by rw [List.length_drop]; have := Hpl.out; omega) (by unfold maxLen; omega) (by omega) (by simp) ?_
            intro ao2 cap2 w2 o2 g2 _
            go_frame
            have hfA : Fr noBlock wr w2 := (((Fr.refl noBlock wr).alloc (.cells #[] 111)).grown g2 (fun k hk => by simp [Value.ownBlock] at hk; subst hk; exact .inr (Nat.le_refl _)))
            have x1 := (hfA.cell (p := ⟨l, 1, none⟩) hll2 (fun x => x)).trans c1
            have x2 := (hfA.frozen (p := ⟨l, 1, none⟩) hll2 (fun x => x)).trans z1
            have O2 := Lib.hid o2
            have HfA := Lib.hid hfA
            clear o2 g2 hfA a1
            go_wp2_with fail
            refine (end_any _ _).mono ?_
            rintro e w9 ⟨rfl, rfl⟩
            go_wp2_with fail
            go_ret
            have hset : Fr (fun k => k = l) w2 (w2.setCell ⟨l, 1, none⟩ (.slice ao2 0 cap2)) := (Fr.refl (fun k => k = l) w2).setCell (p := ⟨l, 1, none⟩) (.inl rfl) _
            have hF1 : Fr (fun k => k = l) wr (w2.setCell ⟨l, 1, none⟩ (.slice ao2 0 cap2)) := (HfA.out.mono (fun _ x => x.elim)).trans hset (fun k hk => .inl hk)
            have hrow : RowAt 111 DirtR w2 (.slice ao2 0 cap2) (ps.drop 0) := RowAt.of_own O2.out (by rw [List.length_drop]; have := Hpl.out; omega)
            have hnew : ∀ k, (Value.slice ao2 0 cap2).ownBlock = some k → wr.heap.size ≤ k := fun k hk => (O2.out.lt k hk).1
            obtain ⟨hR, hSt⟩ := Hin.out.setD (dv' := ⟨ao2, 0, cap2⟩) (ps' := ps.drop 0) (dirty' := dk.dirty.drop 0) hF1
              (by have := heap_set_eq (i := 1) (u := .slice ao2 0 cap2) (HfA.out.obj Hin.out.box (fun x => x)); simpa [SV.val] using this)
              (hrow.fr hset (fun k hk e => by have := hnew k hk; omega)) (by simp [Hpl.out, E3.out]) (fun k hk => .inr (hnew k hk))
              (fun j p q h1 h2 => by
                rw [List.getElem?_drop] at h1 h2
                obtain ⟨e1, b1⟩ := Hin.out.dbufs (0 + j) p q h1 h2
                have b2 := b1.keep hF1 (fun k hk => by subst hk; exact Hin.out.no_l) (fun _ x => x)
                exact ⟨e1, b2.row, fun k hk => .inl (b2.own k hk)⟩) Hgf.out
            exact ⟨_, ret_int (by rw [Hd.out.2]; rfl), by rw [Hd.out.1]; exact ⟨_, _, _, _, _, _, hR⟩, HS.out.trans hSt⟩
          · have a1 := fun o => (World.cell?_alloc_lt wr o ⟨l, 1, none⟩ hll2).trans c1
            rcases (show dc = K ∨ K < dc by omega) with hdq | hdq
            · have Hrd := Lib.hid (show RowRd DirtR (wr.alloc (.cells #[] 111)) (some ⟨gd, 0, none⟩) (ps.drop K) by
                rw [List.drop_of_length_le (by have := Hpl.out; omega)]
                exact RowRd.nil)
              subst hdq
              go_wp2_with (at_builtin; apply stop_here)
              refine ⟨?_, trivial⟩
              refine wpList_app rfl _ _ rfl el_dirts (v := .slice (some ⟨wr.heap.size, 0, none⟩) 0 0) [] (ps.drop dc) (ps.drop dc) rfl wr.heap.size 0 0 (by rw [List.length_drop]; have := Hpl.out; omega) rfl (World.ownsRow_made wr #[] 0 (Nat.le_refl _) (Nat.zero_le _) rfl) rfl Hrd.out (by rw [List.length_drop]; have := Hpl.out; omega) (by unfold maxLen; omega) (by omega) (by simp) ?_
              intro ao2 cap2 w2 o2 g2 _
              go_frame
              have hfA : Fr noBlock wr w2 := (((Fr.refl noBlock wr).alloc (.cells #[] 111)).grown g2 (fun k hk => by simp [Value.ownBlock] at hk; subst hk; exact .inr (Nat.le_refl _)))
              have x1 := (hfA.cell (p := ⟨l, 1, none⟩) hll2 (fun x => x)).trans c1
              have x2 := (hfA.frozen (p := ⟨l, 1, none⟩) hll2 (fun x => x)).trans z1
              have O2 := Lib.hid o2
              have HfA := Lib.hid hfA
              clear o2 g2 hfA a1
              go_wp2_with fail
              refine (end_any _ _).mono ?_
              rintro e w9 ⟨rfl, rfl⟩
              go_wp2_with fail
              go_ret
              have hset : Fr (fun k => k = l) w2 (w2.setCell ⟨l, 1, none⟩ (.slice ao2 0 cap2)) := (Fr.refl (fun k => k = l) w2).setCell (p := ⟨l, 1, none⟩) (.inl rfl) _
              have hF1 : Fr (fun k => k = l) wr (w2.setCell ⟨l, 1, none⟩ (.slice ao2 0 cap2)) := (HfA.out.mono (fun _ x => x.elim)).trans hset (fun k hk => .inl hk)
              have hrow : RowAt 111 DirtR w2 (.slice ao2 0 cap2) (ps.drop dc) := RowAt.of_own O2.out (by rw [List.length_drop]; have := Hpl.out; omega)
              have hnew : ∀ k, (Value.slice ao2 0 cap2).ownBlock = some k → wr.heap.size ≤ k := fun k hk => (O2.out.lt k hk).1
              obtain ⟨hR, hSt⟩ := Hin.out.setD (dv' := ⟨ao2, 0, cap2⟩) (ps' := ps.drop dc) (dirty' := dk.dirty.drop dc) hF1
                (by have := heap_set_eq (i := 1) (u := .slice ao2 0 cap2) (HfA.out.obj Hin.out.box (fun x => x)); simpa [SV.val] using this)
                (hrow.fr hset (fun k hk e => by have := hnew k hk; omega)) (by simp [Hpl.out, E3.out]) (fun k hk => .inr (hnew k hk))
                (fun j p q h1 h2 => by
                  rw [List.getElem?_drop] at h1 h2
                  obtain ⟨e1, b1⟩ := Hin.out.dbufs (dc + j) p q h1 h2
                  have b2 := b1.keep hF1 (fun k hk => by subst hk; exact Hin.out.no_l) (fun _ x => x)
                  exact ⟨e1, b2.row, fun k hk => .inl (b2.own k hk)⟩) Hgf.out
              exact ⟨_, ret_int (by rw [Hd.out.2]; rfl), by rw [Hd.out.1]; exact ⟨_, _, _, _, _, _, hR⟩, HS.out.trans hSt⟩
            · have Hrd := Lib.hid (show RowRd DirtR (wr.alloc (.cells #[] 111)) (some ⟨gd, K * 2, none⟩) (ps.drop K) by
                have h1 := (Hdr.out.piece K (ps.length - K)).fr0 ((Fr.refl noBlock wr).alloc (.cells #[] 111))
                rw [List.take_of_length_le (by simp)] at h1
                simpa [dirtK] using h1)
              have hdqI : (K : Int) < (dc : Int) := by omega
              go_wp2_with (at_builtin; apply stop_here)
              refine ⟨?_, trivial⟩
              refine wpList_app rfl _ _ rfl el_dirts (v := .slice (some ⟨wr.heap.size, 0, none⟩) 0 0) [] (ps.drop K) (ps.drop K) rfl wr.heap.size 0 (d.dirty.length - K) (by rw [List.length_drop]; have := Hpl.out; omega) rfl (World.ownsRow_made wr #[] 0 (Nat.le_refl _) (Nat.zero_le _) rfl) rfl Hrd.out (by rw [List.length_drop]; have := Hpl.out; omega) (by unfold maxLen; omega) (by omega) (by simp) ?_
              intro ao2 cap2 w2 o2 g2 _
              go_frame
              have hfA : Fr noBlock wr w2 := (((Fr.refl noBlock wr).alloc (.cells #[] 111)).grown g2 (fun k hk => by simp [Value.ownBlock] at hk; subst hk; exact .inr (Nat.le_refl _)))
              have x1 := (hfA.cell (p := ⟨l, 1, none⟩) hll2 (fun x => x)).trans c1
              have x2 := (hfA.frozen (p := ⟨l, 1, none⟩) hll2 (fun x => x)).trans z1
              have O2 := Lib.hid o2
              have HfA := Lib.hid hfA
              clear o2 g2 hfA a1
              go_wp2_with fail
              refine (end_any _ _).mono ?_
              rintro e w9 ⟨rfl, rfl⟩
              go_wp2_with fail
              go_ret
              have hset : Fr (fun k => k = l) w2 (w2.setCell ⟨l, 1, none⟩ (.slice ao2 (d.dirty.length - K) cap2)) := (Fr.refl (fun k => k = l) w2).setCell (p := ⟨l, 1, none⟩) (.inl rfl) _
              have hF1 : Fr (fun k => k = l) wr (w2.setCell ⟨l, 1, none⟩ (.slice ao2 (d.dirty.length - K) cap2)) := (HfA.out.mono (fun _ x => x.elim)).trans hset (fun k hk => .inl hk)
              have hrow : RowAt 111 DirtR w2 (.slice ao2 (d.dirty.length - K) cap2) (ps.drop K) := RowAt.of_own O2.out (by rw [List.length_drop]; have := Hpl.out; omega)
              have hnew : ∀ k, (Value.slice ao2 (d.dirty.length - K) cap2).ownBlock = some k → wr.heap.size ≤ k := fun k hk => (O2.out.lt k hk).1
              obtain ⟨hR, hSt⟩ := Hin.out.setD (dv' := ⟨ao2, d.dirty.length - K, cap2⟩) (ps' := ps.drop K) (dirty' := dk.dirty.drop K) hF1
                (by have := heap_set_eq (i := 1) (u := .slice ao2 (d.dirty.length - K) cap2) (HfA.out.obj Hin.out.box (fun x => x)); simpa [SV.val] using this)
                (hrow.fr hset (fun k hk e => by have := hnew k hk; omega)) (by simp [Hpl.out, E3.out]) (fun k hk => .inr (hnew k hk))
                (fun j p q h1 h2 => by
                  rw [List.getElem?_drop] at h1 h2
                  obtain ⟨e1, b1⟩ := Hin.out.dbufs (K + j) p q h1 h2
                  have b2 := b1.keep hF1 (fun k hk => by subst hk; exact Hin.out.no_l) (fun _ x => x)
                  exact ⟨e1, b2.row, fun k hk => .inl (b2.own k hk)⟩) Hgf.out
              exact ⟨_, ret_int (by rw [Hd.out.2]; rfl), by rw [Hd.out.1]; exact ⟨_, _, _, _, _, _, hR⟩, HS.out.trans hSt⟩
    · have hk : K = (part % ((d.dirty.length : Int) + 1)).toNat := by first | exact Hp1.out rfl | exact Hp1.out trivial
      have hkk : part % ((d.dirty.length : Int) + 1) = (K : Int) := by
        have := Int.emod_nonneg part (show ((d.dirty.length : Int) + 1) ≠ 0 by omega)
        omega
      have Hkk := Lib.hid hkk
      clear hk hkk
      refine (mod_any part ((d.dirty.length : Int) + 1) _ (by omega) (by omega)).mono ?_
      rintro e w3 ⟨rfl, rfl⟩
      rw [Hkk.out]
      go_wp2_with fail
      clear x1
      go_loopw [6] (fun s6 wr => ∃ (i : Nat) (G : Nat → Prop), i ≤ K ∧ s6 = .int .i64 i ∧ RDiskAt l (dk.sl i) wr G ∧ Step F G w wr) (fun s6 _ => K - (intOf s6).toNat)
      case atStart => exact ⟨0, F, Nat.zero_le _, rfl, by rw [sl_zero]; exact H1.out, S1.out⟩
      case round =>
        obtain ⟨i, G, hi, rfl, hA, hS⟩ := hrel
        have HS := Lib.hid hS
        have HA := Lib.hid hA
        obtain ⟨acts, part, sv, dv, ss, ps, hin⟩ := hA
        clear hS
        have hdl3 : (dk.sl i).dirty = d.dirty := E3.out
        have hsl3 : (dk.sl i).safe.length = d.safe.length := by rw [sl_len, E2.out]
        obtain ⟨c0, c1, _, _, _, _, _⟩ := hin.cells
        obtain ⟨da, dc, rfl, _, hdc, hdcm, hdr, hshape⟩ := hin.forms2
        unfold SV.val at c1
        simp only at c1
        rw [hdl3] at c1 hdc
        have hpl : ps.length = d.dirty.length := by rw [hin.dlen, hdl3]
        by_cases hlt : i < K
        · have q1 : (i : Int) < (K : Int) := by omega
          have hid : i < d.dirty.length := by omega
          have q2 : (i : Int) < (d.dirty.length : Int) := by omega
          have hip : i < ps.length := by omega
          obtain ⟨bb, off, rfl, hbl, _⟩ := hdr.at' i hip
          obtain ⟨y0, y1⟩ := dirt_rd hdr hip
          obtain ⟨q, hq, eq1, hqs, hql, _, hbuf⟩ := hin.dirt_at hip
          obtain ⟨gs, cs, rfl, hel⟩ := hin.s_form (by omega)
          have hqs' : q.1 < ss.length := by rw [hin.len]; exact hqs
          obtain ⟨x0, z0⟩ := hel q.1 hqs'
          unfold SV.val at c0
          simp only at c0
          rw [hsl3] at c0
          rw [hsl3] at hqs
          have hqI : (q.1 : Int) < (d.safe.length : Int) := by omega
          rw [eq1] at y0
          have hset := slice_set hin.rows hqs' ps[i].2
          generalize ps[i] = p at *
          obtain ⟨pn, a2, n2, c2⟩ := p
          have hstep := sl_step Hgc.out HA.out.good (i := i) hq
          have Hstep := Lib.hid hstep
          have Hset := Lib.hid hset
          have Hbuf := Lib.hid hbuf
          have Hql := Lib.hid hql
          have Hin := Lib.hid hin
          unfold SV.val at y1 x0
          simp only at y0 y1 x0
          generalize ss[q.1] = s0 at *
          clear hin hdr hel hq hlt hstep hset hbuf hql hdl3 hsl3 hpl eq1 hshape HA
          go_wp2_with fail
          go_region
          have hfr := (Fr.refl (fun k => k = gs) wr).setCell (p := ⟨gs, q.1, none⟩) (.inl rfl) (.slice a2 n2 c2)
          have HL := Lib.hid (Hin.out.land (n := q.1) (nb := q.2) (s' := ⟨a2, n2, c2⟩) Hql.out (B := gs) rfl hfr Hset.out (Hbuf.out.keep hfr (fun k hk => by subst hk; exact Hin.out.no_rows rfl) (fun _ x => x)).row (fun k hk => .inl (Hbuf.out.own k hk)))
          clear hfr
          go_wp2_with fail
          go_roundw
          case rel => exact ⟨i + 1, _, by omega, by go_num, by rw [Hstep.out]; exact ⟨_, _, _, _, _, _, HL.out.1.fr ((Fr.refl _ _).drew) (fun _ _ x => x)⟩, HS.out.trans (HL.out.2.news ((Fr.refl noBlock _).drew) (fun _ x => x.elim))⟩
          case measure => simp [intOf]; omega
        · have q1 : (K : Int) ≤ (i : Int) := by omega
          have e : K = i := by omega
          subst e
          have q2 : (K : Int) ≤ (d.dirty.length : Int) := by omega
          have q3 : (d.dirty.length : Int) ≤ (dc : Int) := by omega
          have hll2 := heap_lt hin.box
          have z1 := free_of hin.box 1
          have Hin := Lib.hid hin
          have Hdr := Lib.hid hdr
          have Hpl := Lib.hid hpl
          clear hin hdr hpl hlt hsl3 hdl3 c0
          rcases hshape with ⟨rfl, hps, rfl⟩ | ⟨gd, rfl⟩
          · have hz : d.dirty.length = 0 := by rw [← Hpl.out, hps]; rfl
            have hK0 : 0 = K := by omega
            rw [hz] at c1
            have a1 := fun o => (World.cell?_alloc_lt wr o ⟨l, 1, none⟩ hll2).trans c1
            have Hrd := Lib.hid (show RowRd DirtR (wr.alloc (.cells #[] 111)) none (ps.drop K) by rw [hps]; simp; exact RowRd.nil)
            clear hps
            subst hK0
            go_wp2_with (at_builtin; apply stop_here)
            refine ⟨?_, trivial⟩
            refine wpList_app rfl _ _ rfl el_dirts (v := .slice (some ⟨wr.heap.size, 0, none⟩) 0 0) [] (ps.drop 0) (ps.drop 0) rfl wr.heap.size 0 0 (by rw [List.length_drop]; have := Hpl.out; omega) rfl (World.ownsRow_made wr #[] 0 (Nat.le_refl _) (Nat.zero_le _) rfl) rfl Hrd.out (by rw [List.length_drop]; have := Hpl.out; omega) (by unfold maxLen; omega) (by omega) (by simp) ?_
            intro ao2 cap2 w2 o2 g2 _
            go_frame
            have hfA : Fr noBlock wr w2 := (((Fr.refl noBlock wr).alloc (.cells #[] 111)).grown g2 (fun k hk => by simp [Value.ownBlock] at hk; subst hk; exact .inr (Nat.le_refl _)))
            have x1 := (hfA.cell (p := ⟨l, 1, none⟩) hll2 (fun x => x)).trans c1
            have x2 := (hfA.frozen (p := ⟨l, 1, none⟩) hll2 (fun x => x)).trans z1
            have O2 := Lib.hid o2
            have HfA := Lib.hid hfA
            clear o2 g2 hfA a1
            go_wp2_with fail
            refine (end_any _ _).mono ?_
            rintro e w9 ⟨rfl, rfl⟩
            go_wp2_with fail
            go_ret
            have hset : Fr (fun k => k = l) w2 (w2.setCell ⟨l, 1, none⟩ (.slice ao2 0 cap2)) := (Fr.refl (fun k => k = l) w2).setCell (p := ⟨l, 1, none⟩) (.inl rfl) _
            have hF1 : Fr (fun k => k = l) wr (w2.setCell ⟨l, 1, none⟩ (.slice ao2 0 cap2)) := (HfA.out.mono (fun _ x => x.elim)).trans hset (fun k hk => .inl hk)
            have hrow : RowAt 111 DirtR w2 (.slice ao2 0 cap2) (ps.drop 0) := RowAt.of_own O2.out (by rw [List.length_drop]; have := Hpl.out; omega)
            have hnew : ∀ k, (Value.slice ao2 0 cap2).ownBlock = some k → wr.heap.size ≤ k := fun k hk => (O2.out.lt k hk).1
            obtain ⟨hR, hSt⟩ := Hin.out.setD (dv' := ⟨ao2, 0, cap2⟩) (ps' := ps.drop 0) (dirty' := dk.dirty.drop 0) hF1
              (by have := heap_set_eq (i := 1) (u := .slice ao2 0 cap2) (HfA.out.obj Hin.out.box (fun x => x)); simpa [SV.val] using this)
              (hrow.fr hset (fun k hk e => by have := hnew k hk; omega)) (by simp [Hpl.out, E3.out]) (fun k hk => .inr (hnew k hk))
              (fun j p q h1 h2 => by
                rw [List.getElem?_drop] at h1 h2
                obtain ⟨e1, b1⟩ := Hin.out.dbufs (0 + j) p q h1 h2
                have b2 := b1.keep hF1 (fun k hk => by subst hk; exact Hin.out.no_l) (fun _ x => x)
                exact ⟨e1, b2.row, fun k hk => .inl (b2.own k hk)⟩) Hgf.out
            exact ⟨_, ret_int (by rw [Hd.out.2]; rfl), by rw [Hd.out.1]; exact ⟨_, _, _, _, _, _, hR⟩, HS.out.trans hSt⟩
          · have a1 := fun o => (World.cell?_alloc_lt wr o ⟨l, 1, none⟩ hll2).trans c1
            rcases (show dc = K ∨ K < dc by omega) with hdq | hdq
            · have Hrd := Lib.hid (show RowRd DirtR (wr.alloc (.cells #[] 111)) (some ⟨gd, 0, none⟩) (ps.drop K) by
                rw [List.drop_of_length_le (by have := Hpl.out; omega)]
                exact RowRd.nil)
              subst hdq
              go_wp2_with (at_builtin; apply stop_here)
              refine ⟨?_, trivial⟩
              refine wpList_app rfl _ _ rfl el_dirts (v := .slice (some ⟨wr.heap.size, 0, none⟩) 0 0) [] (ps.drop dc) (ps.drop dc) rfl wr.heap.size 0 0 (by rw [List.length_drop]; have := Hpl.out; omega) rfl (World.ownsRow_made wr #[] 0 (Nat.le_refl _) (Nat.zero_le _) rfl) rfl Hrd.out (by rw [List.length_drop]; have := Hpl.out; omega) (by unfold maxLen; omega) (by omega) (by simp) ?_
              intro ao2 cap2 w2 o2 g2 _
              go_frame
              have hfA : Fr noBlock wr w2 := (((Fr.refl noBlock wr).alloc (.cells #[] 111)).grown g2 (fun k hk => by simp [Value.ownBlock] at hk; subst hk; exact .inr (Nat.le_refl _)))
              have x1 := (hfA.cell (p := ⟨l, 1, none⟩) hll2 (fun x => x)).trans c1
              have x2 := (hfA.frozen (p := ⟨l, 1, none⟩) hll2 (fun x => x)).trans z1
              have O2 := Lib.hid o2
              have HfA := Lib.hid hfA
              clear o2 g2 hfA a1
              go_wp2_with fail
              refine (end_any _ _).mono ?_
              rintro e w9 ⟨rfl, rfl⟩
              go_wp2_with fail
              go_ret
              have hset : Fr (fun k => k = l) w2 (w2.setCell ⟨l, 1, none⟩ (.slice ao2 0 cap2)) := (Fr.refl (fun k => k = l) w2).setCell (p := ⟨l, 1, none⟩) (.inl rfl) _
              have hF1 : Fr (fun k => k = l) wr (w2.setCell ⟨l, 1, none⟩ (.slice ao2 0 cap2)) := (HfA.out.mono (fun _ x => x.elim)).trans hset (fun k hk => .inl hk)
              have hrow : RowAt 111 DirtR w2 (.slice ao2 0 cap2) (ps.drop dc) := RowAt.of_own O2.out (by rw [List.length_drop]; have := Hpl.out; omega)
              have hnew : ∀ k, (Value.slice ao2 0 cap2).ownBlock = some k → wr.heap.size ≤ k := fun k hk => (O2.out.lt k hk).1
              obtain ⟨hR, hSt⟩ := Hin.out.setD (dv' := ⟨ao2, 0, cap2⟩) (ps' := ps.drop dc) (dirty' := dk.dirty.drop dc) hF1
                (by have := heap_set_eq (i := 1) (u := .slice ao2 0 cap2) (HfA.out.obj Hin.out.box (fun x => x)); simpa [SV.val] using this)
                (hrow.fr hset (fun k hk e => by have := hnew k hk; omega)) (by simp [Hpl.out, E3.out]) (fun k hk => .inr (hnew k hk))
                (fun j p q h1 h2 => by
                  rw [List.getElem?_drop] at h1 h2
                  obtain ⟨e1, b1⟩ := Hin.out.dbufs (dc + j) p q h1 h2
                  have b2 := b1.keep hF1 (fun k hk => by subst hk; exact Hin.out.no_l) (fun _ x => x)
                  exact ⟨e1, b2.row, fun k hk => .inl (b2.own k hk)⟩) Hgf.out
              exact ⟨_, ret_int (by rw [Hd.out.2]; rfl), by rw [Hd.out.1]; exact ⟨_, _, _, _, _, _, hR⟩, HS.out.trans hSt⟩
            · have Hrd := Lib.hid (show RowRd DirtR (wr.alloc (.cells #[] 111)) (some ⟨gd, K * 2, none⟩) (ps.drop K) by
                have h1 := (Hdr.out.piece K (ps.length - K)).fr0 ((Fr.refl noBlock wr).alloc (.cells #[] 111))
                rw [List.take_of_length_le (by simp)] at h1
                simpa [dirtK] using h1)
              have hdqI : (K : Int) < (dc : Int) := by omega
              go_wp2_with (at_builtin; apply stop_here)
              refine ⟨?_, trivial⟩
              refine wpList_app rfl _ _ rfl el_dirts (v := .slice (some ⟨wr.heap.size, 0, none⟩) 0 0) [] (ps.drop K) (ps.drop K) rfl wr.heap.size 0 (d.dirty.length - K) (by rw [List.length_drop]; have := Hpl.out; omega) rfl (World.ownsRow_made wr #[] 0 (Nat.le_refl _) (Nat.zero_le _) rfl) rfl Hrd.out (by rw [List.length_drop]; have := Hpl.out; omega) (by unfold maxLen; omega) (by omega) (by simp) ?_
              intro ao2 cap2 w2 o2 g2 _
              go_frame
              have hfA : Fr noBlock wr w2 := (((Fr.refl noBlock wr).alloc (.cells #[] 111)).grown g2 (fun k hk => by simp [Value.ownBlock] at hk; subst hk; exact .inr (Nat.le_refl _)))
              have x1 := (hfA.cell (p := ⟨l, 1, none⟩) hll2 (fun x => x)).trans c1
              have x2 := (hfA.frozen (p := ⟨l, 1, none⟩) hll2 (fun x => x)).trans z1
              have O2 := Lib.hid o2
              have HfA := Lib.hid hfA
              clear o2 g2 hfA a1
              go_wp2_with fail
              refine (end_any _ _).mono ?_
              rintro e w9 ⟨rfl, rfl⟩
              go_wp2_with fail
              go_ret
              have hset : Fr (fun k => k = l) w2 (w2.setCell ⟨l, 1, none⟩ (.slice ao2 (d.dirty.length - K) cap2)) := (Fr.refl (fun k => k = l) w2).setCell (p := ⟨l, 1, none⟩) (.inl rfl) _
              have hF1 : Fr (fun k => k = l) wr (w2.setCell ⟨l, 1, none⟩ (.slice ao2 (d.dirty.length - K) cap2)) := (HfA.out.mono (fun _ x => x.elim)).trans hset (fun k hk => .inl hk)
              have hrow : RowAt 111 DirtR w2 (.slice ao2 (d.dirty.length - K) cap2) (ps.drop K) := RowAt.of_own O2.out (by rw [List.length_drop]; have := Hpl.out; omega)
              have hnew : ∀ k, (Value.slice ao2 (d.dirty.length - K) cap2).ownBlock = some k → wr.heap.size ≤ k := fun k hk => (O2.out.lt k hk).1
              obtain ⟨hR, hSt⟩ := Hin.out.setD (dv' := ⟨ao2, d.dirty.length - K, cap2⟩) (ps' := ps.drop K) (dirty' := dk.dirty.drop K) hF1
                (by have := heap_set_eq (i := 1) (u := .slice ao2 (d.dirty.length - K) cap2) (HfA.out.obj Hin.out.box (fun x => x)); simpa [SV.val] using this)
                (hrow.fr hset (fun k hk e => by have := hnew k hk; omega)) (by simp [Hpl.out, E3.out]) (fun k hk => .inr (hnew k hk))
                (fun j p q h1 h2 => by
                  rw [List.getElem?_drop] at h1 h2
                  obtain ⟨e1, b1⟩ := Hin.out.dbufs (K + j) p q h1 h2
                  have b2 := b1.keep hF1 (fun k hk => by subst hk; exact Hin.out.no_l) (fun _ x => x)
                  exact ⟨e1, b2.row, fun k hk => .inl (b2.own k hk)⟩) Hgf.out
              exact ⟨_, ret_int (by rw [Hd.out.2]; rfl), by rw [Hd.out.1]; exact ⟨_, _, _, _, _, _, hR⟩, HS.out.trans hSt⟩

end Go.Proofs.Ytmcckppmciflmaa
