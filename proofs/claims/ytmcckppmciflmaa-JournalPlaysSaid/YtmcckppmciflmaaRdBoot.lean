/-
  THE WALK of the document's disk: Boot.
-/
import Derived.Deep.QuietTactic
import Derived.BigQuiet
import Derived.Test.YtmcckppmciflmaaRdFlush
import Derived.Test.YtmcckppmciflmaaDkBoot
namespace Go.Proofs.Ytmcckppmciflmaa
open Go.RowKit

/-- some have landed in part; all are dirty still -/
def DK.bl (d : DK) (keep : List Int) (i : Nat) : DK := { d with safe := landL d.safe ((bootL d.size keep 0 d.dirty).take i) }
theorem bl_zero (d : DK) (keep : List Int) : d.bl keep 0 = d := by simp [DK.bl, landL]
theorem bl_len (d : DK) (keep : List Int) (i : Nat) : (d.bl keep i).safe.length = d.safe.length := landL_len _ _
theorem bl_step (d : DK) (keep : List Int) {i : Nat} {q : Nat × Bs} (hq : d.dirty[i]? = some q) : d.bl keep (i + 1) = { d.bl keep i with safe := (d.bl keep i).safe.set q.1 (q.2.take (keepN d.size keep i) ++ ((d.bl keep i).safe.getD q.1 []).drop (keepN d.size keep i)) } := by
  obtain ⟨h, rfl⟩ := List.getElem?_eq_some_iff.1 hq
  unfold DK.bl
  rw [List.take_succ_eq_append_getElem (by rw [bootL_len]; exact h), landL_snoc, bootL_get _ _ _ _ _ h, Nat.zero_add]
theorem bl_boot (d : DK) (keep : List Int) : d.boot keep = { d.bl keep d.dirty.length with off := false, arm := none, dirty := [] } := by
  unfold DK.boot DK.bl
  rw [List.take_of_length_le (by rw [bootL_len]; exact Nat.le_refl _)]
theorem Good.off_arm {d : DK} (h : d.Good) : ({ d with off := false, arm := none, dirty := [] } : DK).Good := ⟨h.s0, h.s1, h.n1, h.sizes, List.Pairwise.nil, (fun p hp => by cases hp), (fun a p hp => by cases hp)⟩

def RBootP (l : Nat) (d' : DK) (F : Nat → Prop) (w : World) (e : Ending) (w' : World) : Prop := ∃ F', e = .returned (.tuple #[]) ∧ RDiskAt l d' w' F' ∧ Step F F' w w'
set_option maxRecDepth 100000 in
set_option maxHeartbeats 3200000 in
theorem rboot_any {l : Nat} {d : DK} {w : World} {F : Nat → Prop} (h : RDiskAt l d w F) {ak : Option Addr} {keep : List Int} (hk : Beside ak keep w F) (ck : Nat) (hkl : keep.length ≤ 9223372036854775807) :
    Calls Try.prog 49 #[.pointer (some ⟨l, 0, none⟩), .slice ak keep.length ck] w (RBootP l (d.boot keep) F w) := by
  have H := Lib.hid h
  have hgood := h.good
  have hs1 := hgood.s1
  have hs0 := hgood.s0
  have hdl := dirt_len hgood
  have Hgood := Lib.hid hgood
  have HK := Lib.hid hk
  obtain ⟨sz, hsz⟩ : ∃ sz : Nat, d.size = sz := ⟨_, rfl⟩
  rw [hsz] at hs0 hs1
  have Hsz := Lib.hid hsz
  clear hgood h hk hsz
  go_enter Try.func49, Try.ntmps49
  go_wp2_with fail
  go_loopw [4] (fun s4 wr => ∃ (i : Nat) (G : Nat → Prop), i ≤ d.dirty.length ∧ s4 = .int .i64 i ∧ RDiskAt l (d.bl keep i) wr G ∧ Step F G w wr ∧ Beside ak keep wr G) (fun s4 _ => d.dirty.length - (intOf s4).toNat)
  case atStart => exact ⟨0, F, Nat.zero_le _, rfl, by rw [bl_zero]; exact H.out, Step.refl _ _, HK.out⟩
  case round =>
    obtain ⟨i, G, hi, rfl, hA, hS, hK⟩ := hrel
    have HA := Lib.hid (And.intro hA (And.intro hS hK))
    obtain ⟨acts, part, sv, dv, ss, ps, hin⟩ := hA
    obtain ⟨c0, c1, c2, -, -, -, -⟩ := hin.cells
    obtain ⟨da, dc, rfl, -, hdc, hdcm, hdr, hshape⟩ := hin.forms2
    have hdl3 : (d.bl keep i).dirty = d.dirty := rfl
    have hsl3 : (d.bl keep i).safe.length = d.safe.length := bl_len _ _ _
    have hsz3 : (d.bl keep i).size = sz := Hsz.out
    unfold SV.val at c1
    simp only at c1
    rw [hdl3] at c1 hdc
    rw [hsz3] at c2
    have hpl : ps.length = d.dirty.length := by rw [hin.dlen, hdl3]
    by_cases hlt : i < d.dirty.length
    · have q1 : (i : Int) < (d.dirty.length : Int) := by omega
      have q0 : (0 : Int) ≤ (i : Int) := by omega
      have hip : i < ps.length := by omega
      obtain ⟨bb, off, rfl, hbl, -⟩ := hdr.at' i hip
      obtain ⟨y0, y1⟩ := dirt_rd hdr hip
      obtain ⟨q, hq, eq1, hqs, hql, -, hbuf⟩ := hin.dirt_at hip
      obtain ⟨gs, cs, rfl, hel⟩ := hin.s_form (by omega)
      have hqs' : q.1 < ss.length := by rw [hin.len]; exact hqs
      obtain ⟨x0, z0⟩ := hel q.1 hqs'
      have hob := hin.bufs q.1 ss[q.1] _ (List.getElem?_eq_getElem hqs') (List.getElem?_eq_getElem hqs)
      have hobl : (d.bl keep i).safe[q.1].length = sz := Hsz.out ▸ hin.good.sizes _ (List.getElem_mem hqs)
      have hgd : (d.bl keep i).safe.getD q.1 [] = (d.bl keep i).safe[q.1] := by simp [List.getD, List.getElem?_eq_getElem hqs]
      unfold SV.val at c0
      simp only at c0
      rw [hsl3] at c0
      have hqs2 : q.1 < d.safe.length := by rw [← hsl3]; exact hqs
      have hqI : (q.1 : Int) < (d.safe.length : Int) := by omega
      rw [eq1] at y0
      have hset := fun (s' : SV) (W : World) (hf : Fr noBlock wr W) => slice_set (hin.rows.fr0 hf) hqs' s'
      have hstep := bl_step d keep (i := i) hq
      rw [hgd] at hstep
      rw [Hsz.out] at hstep
      have hkle : keepN sz keep i ≤ sz := keepN_le _ _ _
      rw [hsz3] at hql
      generalize ps[i] = p at *
      obtain ⟨pn, a2, n2, c2'⟩ := p
      generalize (d.bl keep i).safe[q.1] = ob at *
      generalize ss[q.1] = so at *
      obtain ⟨a3, n3, c3'⟩ := so
      obtain ⟨g2, cap2, e2, hc2, -⟩ := hbuf.row.block' (by omega)
      obtain ⟨g3, cap3, e3, hc3, -⟩ := hob.row.block' (by omega)
      have hr2 := hbuf.row
      have hr3 := hob.row
      rw [e2] at hr2
      rw [e3] at hr3
      simp only [SV.val, Value.slice.injEq] at e2 e3
      obtain ⟨rfl, rfl, rfl⟩ := e2
      obtain ⟨rfl, rfl, rfl⟩ := e3
      unfold SV.val at y1 x0
      simp only at y0 y1 x0
      rw [hql] at y1 hc2
      rw [hobl] at x0 hc3
      have hm2 : c2' ≤ maxLen := by obtain ⟨_, _, e, _, h, _⟩ := hr2.shape; simp at e; omega
      have hm3 : c3' ≤ maxLen := by obtain ⟨_, _, e, _, h, _⟩ := hr3.shape; simp at e; omega
      unfold maxLen at hm2 hm3 hdcm
      have Hr2 := Lib.hid (RowAt.rd hr2)
      have Hr3 := Lib.hid (RowAt.rd hr3)
      have Hset := Lib.hid hset
      have Hql := Lib.hid hql
      have Hobl := Lib.hid hobl
      have Hstep := Lib.hid hstep
      have Hin := Lib.hid hin
      have hll := heap_lt hin.box
      have Hgs := Lib.hid (show gs < wr.heap.size ∧ bb < wr.heap.size from ⟨hin.rows.lt gs rfl, hbl⟩)
      have hgl : ¬ l = gs := fun e => hin.l_rows (by rw [e]; rfl)
      have hgb : ¬ bb = gs := fun e => hin.rows_drow (k := gs) rfl (by rw [← e]; rfl)
      have hKS : ∀ W : World, Fr (fun k => k = gs) wr W → (W.cell? ⟨l, 0, none⟩ = some (.slice (some ⟨gs, 0, none⟩) d.safe.length cs) ∧ W.cell? ⟨l, 1, none⟩ = some (.slice (some ⟨bb, off, none⟩) d.dirty.length dc) ∧ W.cell? ⟨bb, off + i * 2, none⟩ = some (.int .i64 (q.1 : Int)) ∧ W.cell? ⟨bb, off + i * 2 + 1, none⟩ = some (.slice (some ⟨g2, 0, none⟩) sz c2')) := by
        intro W hf
        exact ⟨(hf.cell (p := ⟨l, 0, none⟩) hll hgl).trans c0, (hf.cell (p := ⟨l, 1, none⟩) hll hgl).trans c1, (hf.cell (p := ⟨bb, off + i * 2, none⟩) hbl hgb).trans y0, (hf.cell (p := ⟨bb, off + i * 2 + 1, none⟩) hbl hgb).trans y1⟩
      have HX0 := Lib.hid (fun (W : World) (hf : Fr noBlock wr W) => And.intro ((hf.cell (p := ⟨gs, q.1, none⟩) Hgs.out.1 (fun x => x)).trans x0) ((hf.frozen (p := ⟨gs, q.1, none⟩) Hgs.out.1 (fun x => x)).trans z0))
      have HKS := Lib.hid hKS
      clear hin hdr hel hq hlt hstep hset hbuf hql hdl3 hsl3 hsz3 hpl eq1 hshape hKS hob hobl hgd hr2 hr3 hip hqs hqs' hS
      by_cases hkk : i < keep.length
      · have qk : (i : Int) < (keep.length : Int) := by omega
        obtain ⟨bk, ofk, ek, -⟩ := hK.rd.at' i hkk
        subst ek
        have yk := int_rd hK.rd hkk
        have Hkn := Lib.hid (keepN_at (size := sz) hkk)
        generalize keepN sz keep i = kn at *
        generalize keep[i] = kv at *
        clear hK hkk
        have hwp : IntKind.i64.wrap ((sz : Int) + 1) = (sz : Int) + 1 := IntWalk.i64_in _ (by omega)
        go_wp2_with fail
        go_region_held3 (fun W => W.cell? ⟨bk, ofk + i, none⟩ = some (.int .i64 kv) ∧ W.cell? ⟨l, 2, none⟩ = some (.int .i64 sz)) (go_keep)
          ((go_at_call 68; (with_reducible refine (mod_any _ _ _ (by omega) (by omega)).mono ?_); rintro e w5 ⟨rfl, rfl⟩))
        clear hwp
        rw [← Hkn.out]
        go_wp2_with fail
        go_quiet (fail)
        go_wp2_with fail
        refine wp_at (φ := fun W => Fr noBlock wr W) (((Fr.refl noBlock wr).drew).drewN _) ?_
        intro wq hfq
        have HFQ := Lib.hid hfq
        have hwq := hfq.size
        clear hfq c0 c1 c2 y0 y1 x0 z0
        have hk0 : (0 : Int) ≤ (kn : Int) := by omega
        have hkc2 : (kn : Int) ≤ (c2' : Int) := by omega
        have hkc3 : (kn : Int) ≤ (c3' : Int) := by omega
        have hkcJ : (kn : Int) ≤ (sz : Int) := by omega
        have hcJ : (sz : Int) ≤ (c2' : Int) := by omega
        have hcK : (sz : Int) ≤ (c3' : Int) := by omega
        by_cases hcc : kn = c3'
        · obtain rfl : kn = c3' := hcc
          obtain rfl : kn = sz := by omega
          go_region_held3 (fun W => W.cell? ⟨l, 0, none⟩ = some (.slice (some ⟨gs, 0, none⟩) d.safe.length cs) ∧ W.cell? ⟨l, 1, none⟩ = some (.slice (some ⟨bb, off, none⟩) d.dirty.length dc) ∧ W.cell? ⟨bb, off + i * 2, none⟩ = some (.int .i64 (q.1 : Int)) ∧ W.cell? ⟨bb, off + i * 2 + 1, none⟩ = some (.slice (some ⟨g2, 0, none⟩) kn c2'))
            (first | exact HKS.out _ (HFQ.out.mono (fun _ x => x.elim)) | exact HKS.out _ (HFQ.out.drew.mono (fun _ x => x.elim)) | exact HKS.out _ ((HFQ.out.alloc _).drew.mono (fun _ x => x.elim)) | exact HKS.out _ (hfa.mono (fun _ x => x.elim)) | exact HKS.out _ (hfb.mono (fun _ x => x.elim)) | exact HKS.out _ ((hfb.mono (T := fun k => k = gs) (fun _ x => x.elim)).setCell (p := ⟨gs, q.1, none⟩) (.inl rfl) _))
            (first
              | (refine step_app (by rfl) _ _ (by rfl) el_bytes (v := .slice (some ⟨wq.heap.size, 0, none⟩) 0 0) [] (q.2.take kn) (q.2.take kn) rfl wq.heap.size 0 kn (by rw [List.length_take]; have := Hql.out; omega) (by rfl) ((World.ownsRow_made wq #[] 0 (Nat.le_refl _) (Nat.zero_le _) rfl).drew) (by rfl) ((Hr2.out.takeN kn).fr0 ((HFQ.out.alloc _).drew)) (by rw [List.length_take]; have := Hql.out; omega) (by unfold maxLen; omega) (by omega) (by simp) ?_; intro ao5 cap5 w5 o5 g5 a5; have hfa : Fr noBlock wr w5 := ((HFQ.out.alloc (.cells #[] 5)).drew).grown g5 (fun k hk => by cases hk; exact .inr hwq))
              | (refine step_app (by rfl) _ _ (by rfl) el_bytes (v := .slice ao5 kn cap5) (q.2.take kn) ([] : Bs) (q.2.take kn) (by simp) wq.heap.size kn kn (by rw [List.length_take]; have := Hql.out; omega) (by rfl) o5 (by rfl) RowRd.nil (by rfl) (by unfold maxLen; omega) (by omega) (by have := g5.size; simp at this; omega) ?_; intro ao6 cap6 w6 o6 g6 a6; have hfb : Fr noBlock wr w6 := hfa.grown g6 (fun k hk => .inr (Nat.le_trans hwq (o5.lt k hk).1)); obtain ⟨x6, z6⟩ := HX0.out _ hfb))
          have hnb : q.2.take kn ++ ob.drop kn = q.2.take kn := by rw [List.drop_of_length_le (by rw [Hobl.out]; exact Nat.le_refl _), List.append_nil]
          have hst := Hstep.out
          rw [hnb] at hst
          have HFB := Lib.hid hfb
          have O6 := Lib.hid o6
          have Hst := Lib.hid hst
          clear o5 g5 a5 o6 g6 a6 hfa hfb hst x6 z6
          go_wp2_with fail
          have hset := Hset.out ⟨ao6, kn, cap6⟩ w6 HFB.out
          have hfg : Fr (fun k => k = gs) w6 (w6.setCell ⟨gs, q.1, none⟩ (.slice ao6 kn cap6)) := (Fr.refl (fun k => k = gs) w6).setCell (p := ⟨gs, q.1, none⟩) (.inl rfl) _
          have hfr : Fr (fun k => k = gs) wr (w6.setCell ⟨gs, q.1, none⟩ (.slice ao6 kn cap6)) := (HFB.out.mono (fun _ x => x.elim)).trans hfg (fun k hk => .inl hk)
          have hnew : ∀ k, (Value.slice ao6 kn cap6).ownBlock = some k → wr.heap.size ≤ k := fun k hk => Nat.le_trans hwq (O6.out.lt k hk).1
          have hlen : (q.2.take kn).length = kn := by simp; have := Hql.out; have := Hobl.out; omega
          have hrow : RowAt 5 ByteR w6 (.slice ao6 kn cap6) (q.2.take kn) := RowAt.of_own O6.out hlen.symm
          have HL := Lib.hid (Hin.out.land (n := q.1) (nb := q.2.take kn) (s' := ⟨ao6, kn, cap6⟩) (hlen.trans Hsz.out.symm) (B := gs) rfl hfr hset (hrow.fr hfg (fun k hk e => by have := hnew k hk; have := Hgs.out.1; omega)) (fun k hk => .inr (hnew k hk)))
          go_roundw
          case rel => exact ⟨i + 1, _, by omega, by go_num, by rw [Hst.out]; exact ⟨_, _, _, _, _, _, HL.out.1⟩, HA.out.2.1.trans HL.out.2, HA.out.2.2.step HL.out.2⟩
          case measure => simp [intOf]; omega
        · have hkc : kn < c3' := by omega
          have hkcI : (kn : Int) < (c3' : Int) := by omega
          have hne : ¬ c3' = kn := by omega
          have HR3 := Lib.hid (fun (W : World) (hf : Fr noBlock wr W) => show RowRd ByteR W (some ⟨g3, kn, none⟩) (ob.drop kn) from by
            have h1 := (Hr3.out.fr0 hf).piece kn (ob.length - kn)
            rw [List.take_of_length_le (by simp)] at h1
            simpa [byteK] using h1)
          go_region_held3 (fun W => W.cell? ⟨l, 0, none⟩ = some (.slice (some ⟨gs, 0, none⟩) d.safe.length cs) ∧ W.cell? ⟨l, 1, none⟩ = some (.slice (some ⟨bb, off, none⟩) d.dirty.length dc) ∧ W.cell? ⟨bb, off + i * 2, none⟩ = some (.int .i64 (q.1 : Int)) ∧ W.cell? ⟨bb, off + i * 2 + 1, none⟩ = some (.slice (some ⟨g2, 0, none⟩) sz c2'))
            (first | exact HKS.out _ (HFQ.out.mono (fun _ x => x.elim)) | exact HKS.out _ (HFQ.out.drew.mono (fun _ x => x.elim)) | exact HKS.out _ ((HFQ.out.alloc _).drew.mono (fun _ x => x.elim)) | exact HKS.out _ (hfa.mono (fun _ x => x.elim)) | exact HKS.out _ (hfb.mono (fun _ x => x.elim)) | exact HKS.out _ ((hfb.mono (T := fun k => k = gs) (fun _ x => x.elim)).setCell (p := ⟨gs, q.1, none⟩) (.inl rfl) _))
            (first
              | (refine step_app (by rfl) _ _ (by rfl) el_bytes (v := .slice (some ⟨wq.heap.size, 0, none⟩) 0 0) [] (q.2.take kn) (q.2.take kn) rfl wq.heap.size 0 kn (by rw [List.length_take]; have := Hql.out; omega) (by rfl) ((World.ownsRow_made wq #[] 0 (Nat.le_refl _) (Nat.zero_le _) rfl).drew) (by rfl) ((Hr2.out.takeN kn).fr0 ((HFQ.out.alloc _).drew)) (by rw [List.length_take]; have := Hql.out; omega) (by unfold maxLen; omega) (by omega) (by simp) ?_; intro ao5 cap5 w5 o5 g5 a5; have hfa : Fr noBlock wr w5 := ((HFQ.out.alloc (.cells #[] 5)).drew).grown g5 (fun k hk => by cases hk; exact .inr hwq))
              | (refine step_app (by rfl) _ _ (by rfl) el_bytes (v := .slice ao5 kn cap5) (q.2.take kn) (ob.drop kn) (q.2.take kn ++ ob.drop kn) rfl wq.heap.size kn sz (by rw [List.length_append, List.length_take, List.length_drop]; have := Hql.out; have := Hobl.out; omega) (by rfl) o5 (by rfl) (HR3.out _ hfa) (by rw [List.length_drop]; have := Hobl.out; omega) (by unfold maxLen; omega) (by omega) (by have := g5.size; simp at this; omega) ?_; intro ao6 cap6 w6 o6 g6 a6; have hfb : Fr noBlock wr w6 := hfa.grown g6 (fun k hk => .inr (Nat.le_trans hwq (o5.lt k hk).1)); obtain ⟨x6, z6⟩ := HX0.out _ hfb))
          have hst := Hstep.out
          have HFB := Lib.hid hfb
          have O6 := Lib.hid o6
          have Hst := Lib.hid hst
          clear o5 g5 a5 o6 g6 a6 hfa hfb hst x6 z6
          go_wp2_with fail
          have hset := Hset.out ⟨ao6, sz, cap6⟩ w6 HFB.out
          have hfg : Fr (fun k => k = gs) w6 (w6.setCell ⟨gs, q.1, none⟩ (.slice ao6 sz cap6)) := (Fr.refl (fun k => k = gs) w6).setCell (p := ⟨gs, q.1, none⟩) (.inl rfl) _
          have hfr : Fr (fun k => k = gs) wr (w6.setCell ⟨gs, q.1, none⟩ (.slice ao6 sz cap6)) := (HFB.out.mono (fun _ x => x.elim)).trans hfg (fun k hk => .inl hk)
          have hnew : ∀ k, (Value.slice ao6 sz cap6).ownBlock = some k → wr.heap.size ≤ k := fun k hk => Nat.le_trans hwq (O6.out.lt k hk).1
          have hlen : (q.2.take kn ++ ob.drop kn).length = sz := by simp; have := Hql.out; have := Hobl.out; omega
          have hrow : RowAt 5 ByteR w6 (.slice ao6 sz cap6) (q.2.take kn ++ ob.drop kn) := RowAt.of_own O6.out hlen.symm
          have HL := Lib.hid (Hin.out.land (n := q.1) (nb := q.2.take kn ++ ob.drop kn) (s' := ⟨ao6, sz, cap6⟩) (hlen.trans Hsz.out.symm) (B := gs) rfl hfr hset (hrow.fr hfg (fun k hk e => by have := hnew k hk; have := Hgs.out.1; omega)) (fun k hk => .inr (hnew k hk)))
          go_roundw
          case rel => exact ⟨i + 1, _, by omega, by go_num, by rw [Hst.out]; exact ⟨_, _, _, _, _, _, HL.out.1⟩, HA.out.2.1.trans HL.out.2, HA.out.2.2.step HL.out.2⟩
          case measure => simp [intOf]; omega
      · have qk : (keep.length : Int) ≤ (i : Int) := by omega
        have Hkn := Lib.hid (keepN_none (size := sz) hkk)
        generalize keepN sz keep i = kn at *
        clear hK hkk
        go_upto_region 6 with (fail)
        rw [show (0 : Int) = ((kn : Nat) : Int) by rw [Hkn.out]; rfl]
        go_wp2_with fail
        go_quiet (fail)
        go_wp2_with fail
        refine wp_at (φ := fun W => Fr noBlock wr W) ((Fr.refl noBlock wr).drewN _) ?_
        intro wq hfq
        have HFQ := Lib.hid hfq
        have hwq := hfq.size
        clear hfq c0 c1 c2 y0 y1 x0 z0
        have hk0 : (0 : Int) ≤ (kn : Int) := by omega
        have hkc2 : (kn : Int) ≤ (c2' : Int) := by omega
        have hkc3 : (kn : Int) ≤ (c3' : Int) := by omega
        have hkcJ : (kn : Int) ≤ (sz : Int) := by omega
        have hcJ : (sz : Int) ≤ (c2' : Int) := by omega
        have hcK : (sz : Int) ≤ (c3' : Int) := by omega
        by_cases hcc : kn = c3'
        · obtain rfl : kn = c3' := hcc
          obtain rfl : kn = sz := by omega
          go_region_held3 (fun W => W.cell? ⟨l, 0, none⟩ = some (.slice (some ⟨gs, 0, none⟩) d.safe.length cs) ∧ W.cell? ⟨l, 1, none⟩ = some (.slice (some ⟨bb, off, none⟩) d.dirty.length dc) ∧ W.cell? ⟨bb, off + i * 2, none⟩ = some (.int .i64 (q.1 : Int)) ∧ W.cell? ⟨bb, off + i * 2 + 1, none⟩ = some (.slice (some ⟨g2, 0, none⟩) kn c2'))
            (first | exact HKS.out _ (HFQ.out.mono (fun _ x => x.elim)) | exact HKS.out _ (HFQ.out.drew.mono (fun _ x => x.elim)) | exact HKS.out _ ((HFQ.out.alloc _).drew.mono (fun _ x => x.elim)) | exact HKS.out _ (hfa.mono (fun _ x => x.elim)) | exact HKS.out _ (hfb.mono (fun _ x => x.elim)) | exact HKS.out _ ((hfb.mono (T := fun k => k = gs) (fun _ x => x.elim)).setCell (p := ⟨gs, q.1, none⟩) (.inl rfl) _))
            (first
              | (refine step_app (by rfl) _ _ (by rfl) el_bytes (v := .slice (some ⟨wq.heap.size, 0, none⟩) 0 0) [] (q.2.take kn) (q.2.take kn) rfl wq.heap.size 0 kn (by rw [List.length_take]; have := Hql.out; omega) (by rfl) ((World.ownsRow_made wq #[] 0 (Nat.le_refl _) (Nat.zero_le _) rfl).drew) (by rfl) ((Hr2.out.takeN kn).fr0 ((HFQ.out.alloc _).drew)) (by rw [List.length_take]; have := Hql.out; omega) (by unfold maxLen; omega) (by omega) (by simp) ?_; intro ao5 cap5 w5 o5 g5 a5; have hfa : Fr noBlock wr w5 := ((HFQ.out.alloc (.cells #[] 5)).drew).grown g5 (fun k hk => by cases hk; exact .inr hwq))
              | (refine step_app (by rfl) _ _ (by rfl) el_bytes (v := .slice ao5 kn cap5) (q.2.take kn) ([] : Bs) (q.2.take kn) (by simp) wq.heap.size kn kn (by rw [List.length_take]; have := Hql.out; omega) (by rfl) o5 (by rfl) RowRd.nil (by rfl) (by unfold maxLen; omega) (by omega) (by have := g5.size; simp at this; omega) ?_; intro ao6 cap6 w6 o6 g6 a6; have hfb : Fr noBlock wr w6 := hfa.grown g6 (fun k hk => .inr (Nat.le_trans hwq (o5.lt k hk).1)); obtain ⟨x6, z6⟩ := HX0.out _ hfb))
          have hnb : q.2.take kn ++ ob.drop kn = q.2.take kn := by rw [List.drop_of_length_le (by rw [Hobl.out]; exact Nat.le_refl _), List.append_nil]
          have hst := Hstep.out
          rw [hnb] at hst
          have HFB := Lib.hid hfb
          have O6 := Lib.hid o6
          have Hst := Lib.hid hst
          clear o5 g5 a5 o6 g6 a6 hfa hfb hst x6 z6
          go_wp2_with fail
          have hset := Hset.out ⟨ao6, kn, cap6⟩ w6 HFB.out
          have hfg : Fr (fun k => k = gs) w6 (w6.setCell ⟨gs, q.1, none⟩ (.slice ao6 kn cap6)) := (Fr.refl (fun k => k = gs) w6).setCell (p := ⟨gs, q.1, none⟩) (.inl rfl) _
          have hfr : Fr (fun k => k = gs) wr (w6.setCell ⟨gs, q.1, none⟩ (.slice ao6 kn cap6)) := (HFB.out.mono (fun _ x => x.elim)).trans hfg (fun k hk => .inl hk)
          have hnew : ∀ k, (Value.slice ao6 kn cap6).ownBlock = some k → wr.heap.size ≤ k := fun k hk => Nat.le_trans hwq (O6.out.lt k hk).1
          have hlen : (q.2.take kn).length = kn := by simp; have := Hql.out; have := Hobl.out; omega
          have hrow : RowAt 5 ByteR w6 (.slice ao6 kn cap6) (q.2.take kn) := RowAt.of_own O6.out hlen.symm
          have HL := Lib.hid (Hin.out.land (n := q.1) (nb := q.2.take kn) (s' := ⟨ao6, kn, cap6⟩) (hlen.trans Hsz.out.symm) (B := gs) rfl hfr hset (hrow.fr hfg (fun k hk e => by have := hnew k hk; have := Hgs.out.1; omega)) (fun k hk => .inr (hnew k hk)))
          go_roundw
          case rel => exact ⟨i + 1, _, by omega, by go_num, by rw [Hst.out]; exact ⟨_, _, _, _, _, _, HL.out.1⟩, HA.out.2.1.trans HL.out.2, HA.out.2.2.step HL.out.2⟩
          case measure => simp [intOf]; omega
        · have hkc : kn < c3' := by omega
          have hkcI : (kn : Int) < (c3' : Int) := by omega
          have hne : ¬ c3' = kn := by omega
          have HR3 := Lib.hid (fun (W : World) (hf : Fr noBlock wr W) => show RowRd ByteR W (some ⟨g3, kn, none⟩) (ob.drop kn) from by
            have h1 := (Hr3.out.fr0 hf).piece kn (ob.length - kn)
            rw [List.take_of_length_le (by simp)] at h1
            simpa [byteK] using h1)
          go_region_held3 (fun W => W.cell? ⟨l, 0, none⟩ = some (.slice (some ⟨gs, 0, none⟩) d.safe.length cs) ∧ W.cell? ⟨l, 1, none⟩ = some (.slice (some ⟨bb, off, none⟩) d.dirty.length dc) ∧ W.cell? ⟨bb, off + i * 2, none⟩ = some (.int .i64 (q.1 : Int)) ∧ W.cell? ⟨bb, off + i * 2 + 1, none⟩ = some (.slice (some ⟨g2, 0, none⟩) sz c2'))
            (first | exact HKS.out _ (HFQ.out.mono (fun _ x => x.elim)) | exact HKS.out _ (HFQ.out.drew.mono (fun _ x => x.elim)) | exact HKS.out _ ((HFQ.out.alloc _).drew.mono (fun _ x => x.elim)) | exact HKS.out _ (hfa.mono (fun _ x => x.elim)) | exact HKS.out _ (hfb.mono (fun _ x => x.elim)) | exact HKS.out _ ((hfb.mono (T := fun k => k = gs) (fun _ x => x.elim)).setCell (p := ⟨gs, q.1, none⟩) (.inl rfl) _))
            (first
              | (refine step_app (by rfl) _ _ (by rfl) el_bytes (v := .slice (some ⟨wq.heap.size, 0, none⟩) 0 0) [] (q.2.take kn) (q.2.take kn) rfl wq.heap.size 0 kn (by rw [List.length_take]; have := Hql.out; omega) (by rfl) ((World.ownsRow_made wq #[] 0 (Nat.le_refl _) (Nat.zero_le _) rfl).drew) (by rfl) ((Hr2.out.takeN kn).fr0 ((HFQ.out.alloc _).drew)) (by rw [List.length_take]; have := Hql.out; omega) (by unfold maxLen; omega) (by omega) (by simp) ?_; intro ao5 cap5 w5 o5 g5 a5; have hfa : Fr noBlock wr w5 := ((HFQ.out.alloc (.cells #[] 5)).drew).grown g5 (fun k hk => by cases hk; exact .inr hwq))
              | (refine step_app (by rfl) _ _ (by rfl) el_bytes (v := .slice ao5 kn cap5) (q.2.take kn) (ob.drop kn) (q.2.take kn ++ ob.drop kn) rfl wq.heap.size kn sz (by rw [List.length_append, List.length_take, List.length_drop]; have := Hql.out; have := Hobl.out; omega) (by rfl) o5 (by rfl) (HR3.out _ hfa) (by rw [List.length_drop]; have := Hobl.out; omega) (by unfold maxLen; omega) (by omega) (by have := g5.size; simp at this; omega) ?_; intro ao6 cap6 w6 o6 g6 a6; have hfb : Fr noBlock wr w6 := hfa.grown g6 (fun k hk => .inr (Nat.le_trans hwq (o5.lt k hk).1)); obtain ⟨x6, z6⟩ := HX0.out _ hfb))
          have hst := Hstep.out
          have HFB := Lib.hid hfb
          have O6 := Lib.hid o6
          have Hst := Lib.hid hst
          clear o5 g5 a5 o6 g6 a6 hfa hfb hst x6 z6
          go_wp2_with fail
          have hset := Hset.out ⟨ao6, sz, cap6⟩ w6 HFB.out
          have hfg : Fr (fun k => k = gs) w6 (w6.setCell ⟨gs, q.1, none⟩ (.slice ao6 sz cap6)) := (Fr.refl (fun k => k = gs) w6).setCell (p := ⟨gs, q.1, none⟩) (.inl rfl) _
          have hfr : Fr (fun k => k = gs) wr (w6.setCell ⟨gs, q.1, none⟩ (.slice ao6 sz cap6)) := (HFB.out.mono (fun _ x => x.elim)).trans hfg (fun k hk => .inl hk)
          have hnew : ∀ k, (Value.slice ao6 sz cap6).ownBlock = some k → wr.heap.size ≤ k := fun k hk => Nat.le_trans hwq (O6.out.lt k hk).1
          have hlen : (q.2.take kn ++ ob.drop kn).length = sz := by simp; have := Hql.out; have := Hobl.out; omega
          have hrow : RowAt 5 ByteR w6 (.slice ao6 sz cap6) (q.2.take kn ++ ob.drop kn) := RowAt.of_own O6.out hlen.symm
          have HL := Lib.hid (Hin.out.land (n := q.1) (nb := q.2.take kn ++ ob.drop kn) (s' := ⟨ao6, sz, cap6⟩) (hlen.trans Hsz.out.symm) (B := gs) rfl hfr hset (hrow.fr hfg (fun k hk e => by have := hnew k hk; have := Hgs.out.1; omega)) (fun k hk => .inr (hnew k hk)))
          go_roundw
          case rel => exact ⟨i + 1, _, by omega, by go_num, by rw [Hst.out]; exact ⟨_, _, _, _, _, _, HL.out.1⟩, HA.out.2.1.trans HL.out.2, HA.out.2.2.step HL.out.2⟩
          case measure => simp [intOf]; omega
    · have q1 : (d.dirty.length : Int) ≤ (i : Int) := by omega
      have e : i = d.dirty.length := by omega
      have z1 := free_of hin.box 1
      have z3 := free_of hin.box 3
      have z4 := free_of hin.box 4
      have x1 : wr.cell? ⟨l, 1, none⟩ = some (.slice da d.dirty.length dc) := c1
      obtain ⟨x3, x4⟩ : wr.cell? ⟨l, 3, none⟩ = some (.bool (d.bl keep i).off) ∧ wr.cell? ⟨l, 4, none⟩ = some (.bool (d.bl keep i).arm.isSome) := ⟨hin.cells.2.2.2.1, hin.cells.2.2.2.2.1⟩
      have Hin := Lib.hid hin
      have HE := Lib.hid e
      clear hin hdr hshape hdl3 hsl3 hsz3 hpl hlt hS hK c0 c2 e x1
      go_wp2_with fail
      go_end0
      have hfr := (((Fr.refl (fun k => k = l) wr).setCell (p := ⟨l, 1, none⟩) (.inl rfl) (.slice none 0 0)).setCell (p := ⟨l, 3, none⟩) (.inl rfl) (.bool false)).setCell (p := ⟨l, 4, none⟩) (.inl rfl) (.bool false)
      have hbx := heap_set_eq (i := 4) (u := .bool false) (heap_set_eq (i := 3) (u := .bool false) (heap_set_eq (i := 1) (u := .slice none 0 0) Hin.out.box))
      refine ⟨G, rfl, ?_, HA.out.2.1.trans ⟨hfr.mono (fun k hk => by subst hk; exact Hin.out.hl), fun _ hk => .inl hk⟩⟩
      rw [bl_boot, ← HE.out]
      have hg := Hin.out.good
      exact ⟨acts, part, sv, ⟨none, 0, 0⟩, ss, [], ⟨by rw [hbx]; simp [SV.val], (fun a p h => by cases h), Hin.out.rows.fr hfr (fun _ hk e => Hin.out.l_rows (e ▸ hk)), Hin.out.len, (fun i s b h1 h2 => (Hin.out.bufs i s b h1 h2).keep hfr (fun k hk => by subst hk; exact Hin.out.no_l) (fun _ x => x)), RowAt.nil, rfl, (fun i p q h => by simp at h), Hin.out.hl, Hin.out.hs, (fun k hk => by cases hk), (fun k hk => Nat.lt_of_lt_of_le (Hin.out.lt k hk) hfr.size), Good.off_arm hg⟩⟩
end Go.Proofs.Ytmcckppmciflmaa
