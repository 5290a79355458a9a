/-
  THE WALK of the disk laws' act: an act on both sides.
-/
import Derived.Test.YtmcckppmciflmaaRdTells
import Derived.Test.YtmcckppmciflmaaRdBoot
import Derived.Test.YtmcckppmciflmaaRdWrite
import Derived.Test.YtmcckppmciflmaaDkBoot
import Derived.Test.YtmcckppmciflmaaDkFill
import Derived.Test.YtmcckppmciflmaaDkOpen
import Derived.Deep.RegionHeld3
namespace Go.Proofs.Ytmcckppmciflmaa
open Go.RowKit

/-- both disks, the boxed act, its rows, while steps are made -/
structure AS (l l2 : Nat) (d1 d2 : DK) (b : Nat) (a : DAct) (w0 w : World) (H0 H : Nat → Prop) : Prop where
  T : Two (DiskAt l d1) (RDiskAt l2 d2) w H
  st : Step H0 H w0 w
  bx : Bes DActR (some ⟨b, 0, none⟩) [a] w H
  bb : Bes ByteR a.bo a.b w H
  bk : Bes IntR a.ko a.keep w H
namespace AS
variable {l l2 : Nat} {d1 d2 : DK} {b : Nat} {a : DAct} {w0 w w' : World} {H0 H : Nat → Prop}
theorem fr (h : AS l l2 d1 d2 b a w0 w H0 H) (f : Fr noBlock w w') : AS l l2 d1 d2 b a w0 w' H0 H :=
  ⟨(Two.ok DiskAt.ok RDiskAt.ok).fr0 h.T f, h.st.trans (Step.same f), h.bx.fr f, h.bb.fr f, h.bk.fr f⟩
theorem step {d1' d2' : DK} {H' : Nat → Prop} (h : AS l l2 d1 d2 b a w0 w H0 H) (t : Two (DiskAt l d1') (RDiskAt l2 d2') w' H') (s : Step H H' w w') : AS l l2 d1' d2' b a w0 w' H0 H' :=
  ⟨t, h.st.trans s, h.bx.step s, h.bb.step s, h.bk.step s⟩
theorem left (h : AS l l2 d1 d2 b a w0 w H0 H) : ∃ G, DiskAt l d1 w G ∧ (∀ k, G k → H k) ∧ ∀ (d1' : DK) (w' : World) (G' : Nat → Prop), DiskAt l d1' w' G' → Step G G' w w' → ∃ H', AS l l2 d1' d2 b a w0 w' H0 H' ∧ Step H H' w w' := by
  obtain ⟨F, G, h1, h2, h3, h4⟩ := h.T
  refine ⟨F, h1, fun k hk => (h4 k).2 (.inl hk), fun d1' w' G' h' hs => ?_⟩
  obtain ⟨t, s⟩ := Two.left RDiskAt.ok h2 h3 h4 h' hs
  exact ⟨_, h.step t s, s⟩
theorem right (h : AS l l2 d1 d2 b a w0 w H0 H) : ∃ G, RDiskAt l2 d2 w G ∧ (∀ k, G k → H k) ∧ ∀ (d2' : DK) (w' : World) (G' : Nat → Prop), RDiskAt l2 d2' w' G' → Step G G' w w' → ∃ H', AS l l2 d1 d2' b a w0 w' H0 H' ∧ Step H H' w w' := by
  obtain ⟨F, G, h1, h2, h3, h4⟩ := h.T
  refine ⟨G, h2, fun k hk => (h4 k).2 (.inr hk), fun d2' w' G' h' hs => ?_⟩
  obtain ⟨t, s⟩ := Two.right DiskAt.ok h1 h3 h4 h' hs
  exact ⟨_, h.step t s, s⟩
theorem cells (h : AS l l2 d1 d2 b a w0 w H0 H) : w.cell? ⟨b, 0, none⟩ = some (.int .i64 a.op) ∧ w.cell? ⟨b, 1, none⟩ = some (.int .i64 a.n) ∧ w.cell? ⟨b, 2, none⟩ = some (.int .i64 a.m) ∧ w.cell? ⟨b, 3, none⟩ = some (.slice a.bo a.b.length a.bc) ∧ w.cell? ⟨b, 4, none⟩ = some (.slice a.ko a.keep.length a.kc) := by
  obtain ⟨b', off, e, _, c0, c1, c2, c3, c4⟩ := dact_cells h.bx.rd (i := 0) (by simp)
  cases e
  simpa using ⟨c0, c1, c2, c3, c4⟩
theorem lt (h : AS l l2 d1 d2 b a w0 w H0 H) : ∀ k, H k → k < w.heap.size := (Two.ok DiskAt.ok RDiskAt.ok).lt h.T
end AS
def DAct.val (a : DAct) : Value := .agg #[.int .i64 a.op, .int .i64 a.n, .int .i64 a.m, .slice a.bo a.b.length a.bc, .slice a.ko a.keep.length a.kc]
/-- what is known of an act's numbers -/
structure DAct.Num (a : DAct) : Prop where
  n : i64B a.n
  m : i64B a.m
  b : a.b.length ≤ 140737488351232
  k : a.keep.length * 8 ≤ 140737488351232
theorem RDiskAt.size_cell {l : Nat} {d : DK} {w : World} {F : Nat → Prop} (h : RDiskAt l d w F) : w.cell? ⟨l, 2, none⟩ = some (.int .i64 d.size) ∧ l < w.heap.size := by
  obtain ⟨acts, part, sv, dv, ss, ps, hin⟩ := h
  exact ⟨hin.cells.2.2.1, heap_lt hin.box⟩
theorem own_eq {g n c k : Nat} (h : (SV.val ⟨some ⟨g, 0, none⟩, n, c⟩).ownBlock = some k) : g = k := by simpa [SV.val, Value.ownBlock] using h
def ActP (l l2 : Nat) (H : Nat → Prop) (w : World) (e : Ending) (w' : World) : Prop := ∃ d' H', e = .returned (.bool true) ∧ Two (DiskAt l d') (RDiskAt l2 d') w' H' ∧ Step H H' w w'
theorem AS.start {l l2 : Nat} {d : DK} {w : World} {H : Nat → Prop} (hT : Two (DiskAt l d) (RDiskAt l2 d) w H) (a : DAct) (hb : Bes ByteR a.bo a.b w H) (hk : Bes IntR a.ko a.keep w H) :
    AS l l2 d d w.heap.size a w (w.alloc (.cells #[.int .i64 a.op, .int .i64 a.n, .int .i64 a.m, .slice a.bo a.b.length a.bc, .slice a.ko a.keep.length a.kc] 31)) H H := by
  have f := (Fr.refl noBlock w).alloc (.cells #[.int .i64 a.op, .int .i64 a.n, .int .i64 a.m, .slice a.bo a.b.length a.bc, .slice a.ko a.keep.length a.kc] 31)
  have hlt := (Two.ok DiskAt.ok RDiskAt.ok).lt hT
  refine ⟨(Two.ok DiskAt.ok RDiskAt.ok).fr0 hT f, Step.same f, ⟨RowRd.one (heap_new w _) a rfl, fun _ p e => ?_⟩, hb.fr f, hk.fr f⟩
  cases e
  exact ⟨fun h => Nat.lt_irrefl _ (hlt _ h), by simp⟩

set_option maxRecDepth 100000 in
set_option maxHeartbeats 3200000 in
theorem act_any {l l2 : Nat} {d : DK} {w : World} {H : Nat → Prop} (hT : Two (DiskAt l d) (RDiskAt l2 d) w H) (a : DAct) (hn : a.Num) (hb : Bes ByteR a.bo a.b w H) (hk : Bes IntR a.ko a.keep w H) :
    Calls Try.prog 24 #[.pointer (some ⟨l, 0, none⟩), .pointer (some ⟨l2, 0, none⟩), a.val] w (ActP l l2 H w) := by
  obtain ⟨op, n, m, bo, bc, b, ko, kc, keep⟩ := a
  have S0 := Lib.hid (AS.start hT ⟨op, n, m, bo, bc, b, ko, kc, keep⟩ hb hk)
  obtain ⟨⟨hn0, hn1⟩, ⟨hm0, hm1⟩, hbz, hkz⟩ := hn
  simp only at hn0 hn1 hm0 hm1 hbz hkz
  have hxx : ∀ x : Int, (x == x) = true := fun x => by simp
  have Hxx := Lib.hid hxx
  clear hT hb hk hxx
  unfold DAct.val
  simp only
  by_cases o0 : op = 0
  · subst o0
    have A0 := Lib.hid S0.out
    clear S0
    go_enter Try.func24, Try.ntmps24
    go_wp2_with fail
    obtain ⟨G1, hG1, -, -⟩ := A0.out.right
    obtain ⟨e2, -⟩ := hG1.size_cell
    have hgd := hG1.good
    have hs1 := hgd.s1
    obtain ⟨c0, c1, c2, c3, c4⟩ := A0.out.cells
    simp only at c0 c1 c2 c3 c4
    have HS0 := Lib.hid (And.intro c3 e2)
    clear c0 c1 c2 c3 c4 hgd hG1 e2
    go_region_held3 (fun W => W.cell? ⟨w.heap.size, 3, none⟩ = some (.slice bo b.length bc) ∧ W.cell? ⟨l2, 2, none⟩ = some (.int .i64 d.size))
      (first | exact HS0.out | exact hS1)
      ((go_at_call 14; (with_reducible refine (fill_any (b := b) (A0.out.fr ((Fr.refl _ _).drew)).bb.rd bc (by show b.length ≤ _; omega) d.size hs1).mono ?_); rintro e w1 ⟨s, rfl, hl1, hr1, hf1, hn1'⟩; have hA1 := (A0.out.fr ((Fr.refl _ _).drew)).fr hf1; obtain ⟨G1, hG1, -, -⟩ := hA1.right; have hS1 := And.intro hA1.cells.2.2.2.1 hG1.size_cell.1))
    have A1 := Lib.hid hA1
    obtain ⟨bs, hbs⟩ : ∃ bs : Bs, fillB b d.size = bs := ⟨_, rfl⟩
    have hbl : (fillB b d.size).length = d.size := fillB_len _ _
    rw [hbs] at hr1 hl1 hbl
    have hbsz : bs.length ≤ 140737488351232 := by omega
    obtain ⟨sa, sn, sc⟩ := s
    simp only at hl1
    subst hl1
    have B1 := Lib.hid (show Bes ByteR sa bs w1 H from Bes.new hr1 hn1' (by have := A0.out.lt; simpa using this))
    unfold SV.val
    simp only
    clear hA1 hS1 hG1 hr1 hf1 hn1' hbs hbl hs1
    obtain ⟨c0, c1, c2, c3, c4⟩ := A1.out.cells
    simp only at c0 c1 c2 c3 c4
    go_wp2_with fail
    clear c0 c1 c2 c3 c4
    have HL1 := Lib.hid (A1.out.lt)
    refine (lent_any B1.out.rd sc hbsz).mono ?_
    rintro e w2 ⟨g, rfl, hL, hg, hf⟩
    have A2 := Lib.hid (A1.out.fr hf)
    have B2 := Lib.hid (B1.out.fr hf)
    have L2 := Lib.hid hL
    have F2 := Lib.hid hf
    have Hg := Lib.hid hg
    have hgH : ¬ H g := fun hh => by have := HL1.out g hh; omega
    have HgH := Lib.hid hgH
    clear hL hg hf hgH
    obtain ⟨c0, c1, c2, c3, c4⟩ := A2.out.cells
    simp only at c0 c1 c2 c3 c4
    go_wp2_with fail
    clear c0 c1 c2 c3 c4
    obtain ⟨G3, hG3, hsub3, st3⟩ := A2.out.left
    refine (write_any hG3 n (RowAt.rd L2.out.row) (fun a e => by cases e; exact fun hh => HgH.out (hsub3 _ hh)) (bs.length + 1) (by omega)).mono ?_
    rintro e w3 ⟨G3', rfl, h3, s3⟩
    obtain ⟨H3, hA3, hS3⟩ := st3 (d.write n bs) _ _ h3 s3
    have A3 := Lib.hid hA3
    have S13 := Lib.hid ((Step.same (F := H) F2.out).trans hS3)
    have B3 := Lib.hid (B2.out.step hS3)
    have L3 := Lib.hid (L2.out.fr hS3.fr HgH.out)
    have HgH3 := Lib.hid (hS3.keep L2.out.lt HgH.out).2.2
    clear hG3 hsub3 st3 h3 s3 hA3 hS3
    go_wp2_with fail
    refine (kept_any L3.out B3.out.rd sc hbsz).mono ?_
    rintro e w3' ⟨rfl, rfl⟩
    go_wp2_with fail
    refine (owned_box (s := ⟨some ⟨g, 0, none⟩, bs.length, bs.length + 1⟩) L3.out.row 1).mono ?_
    rintro e w4 ⟨rfl, fo⟩
    have T4 := (Two.ok DiskAt.ok RDiskAt.ok).fr A3.out.T fo (fun k hk e => HgH3.out (own_eq e ▸ hk))
    have S14 := S13.out.news fo (fun k hk => own_eq hk ▸ Hg.out)
    have A4 := Lib.hid (A1.out.step T4 S14)
    have B4 := Lib.hid (B1.out.step S14)
    clear fo T4 S14
    obtain ⟨c0, c1, c2, c3, c4⟩ := A4.out.cells
    simp only at c0 c1 c2 c3 c4
    have hx := Hxx.out (d.writeE n bs.length)
    go_wp2_with fail
    obtain ⟨G5, hG5, hsub5, st5⟩ := A4.out.right
    refine (rwrite_any hG5 n B4.out.rd (fun h0 a e hh => (B4.out.ap h0 a e).1 (hsub5 _ hh)) sc (by omega)).mono ?_
    rintro e w5 ⟨G5', rfl, h5, s5⟩
    obtain ⟨H5, hA5, hS5⟩ := st5 (d.write n bs) _ _ h5 s5
    have A5 := Lib.hid hA5
    clear hG5 hsub5 st5 h5 s5 hA5 hS5 c0 c1 c2 c3 c4
    go_wp2_with fail
    go_ret
    exact ⟨_, _, rfl, A5.out.T, A5.out.st⟩
  by_cases o1 : op = 1
  · subst o1
    have A0 := Lib.hid S0.out
    clear S0 o0
    go_enter Try.func24, Try.ntmps24
    go_wp2_with fail
    have A1 := Lib.hid A0.out
    have B1 := Lib.hid (show Bes ByteR bo b _ H from A0.out.bb)
    have hbsz : b.length ≤ 140737488351232 := hbz
    have HL1 := Lib.hid (A1.out.lt)
    refine (lent_any B1.out.rd bc hbsz).mono ?_
    rintro e w2 ⟨g, rfl, hL, hg, hf⟩
    have A2 := Lib.hid (A1.out.fr hf)
    have B2 := Lib.hid (B1.out.fr hf)
    have L2 := Lib.hid hL
    have F2 := Lib.hid hf
    have Hg := Lib.hid hg
    have hgH : ¬ H g := fun hh => by have := HL1.out g hh; omega
    have HgH := Lib.hid hgH
    clear hL hg hf hgH
    obtain ⟨c0, c1, c2, c3, c4⟩ := A2.out.cells
    simp only at c0 c1 c2 c3 c4
    go_wp2_with fail
    clear c0 c1 c2 c3 c4
    obtain ⟨G3, hG3, hsub3, st3⟩ := A2.out.left
    refine (write_any hG3 n (RowAt.rd L2.out.row) (fun a e => by cases e; exact fun hh => HgH.out (hsub3 _ hh)) (b.length + 1) (by omega)).mono ?_
    rintro e w3 ⟨G3', rfl, h3, s3⟩
    obtain ⟨H3, hA3, hS3⟩ := st3 (d.write n b) _ _ h3 s3
    have A3 := Lib.hid hA3
    have S13 := Lib.hid ((Step.same (F := H) F2.out).trans hS3)
    have B3 := Lib.hid (B2.out.step hS3)
    have L3 := Lib.hid (L2.out.fr hS3.fr HgH.out)
    have HgH3 := Lib.hid (hS3.keep L2.out.lt HgH.out).2.2
    clear hG3 hsub3 st3 h3 s3 hA3 hS3
    go_wp2_with fail
    refine (kept_any L3.out B3.out.rd bc hbsz).mono ?_
    rintro e w3' ⟨rfl, rfl⟩
    go_wp2_with fail
    refine (owned_box (s := ⟨some ⟨g, 0, none⟩, b.length, b.length + 1⟩) L3.out.row 1).mono ?_
    rintro e w4 ⟨rfl, fo⟩
    have T4 := (Two.ok DiskAt.ok RDiskAt.ok).fr A3.out.T fo (fun k hk e => HgH3.out (own_eq e ▸ hk))
    have S14 := S13.out.news fo (fun k hk => own_eq hk ▸ Hg.out)
    have A4 := Lib.hid (A1.out.step T4 S14)
    have B4 := Lib.hid (B1.out.step S14)
    clear fo T4 S14
    obtain ⟨c0, c1, c2, c3, c4⟩ := A4.out.cells
    simp only at c0 c1 c2 c3 c4
    have hx := Hxx.out (d.writeE n b.length)
    go_wp2_with fail
    obtain ⟨G5, hG5, hsub5, st5⟩ := A4.out.right
    refine (rwrite_any hG5 n B4.out.rd (fun h0 a e hh => (B4.out.ap h0 a e).1 (hsub5 _ hh)) bc (by omega)).mono ?_
    rintro e w5 ⟨G5', rfl, h5, s5⟩
    obtain ⟨H5, hA5, hS5⟩ := st5 (d.write n b) _ _ h5 s5
    have A5 := Lib.hid hA5
    clear hG5 hsub5 st5 h5 s5 hA5 hS5 c0 c1 c2 c3 c4
    go_wp2_with fail
    go_ret
    exact ⟨_, _, rfl, A5.out.T, A5.out.st⟩
  by_cases o2 : op = 2
  · subst o2
    have A0 := Lib.hid S0.out
    clear S0 o0 o1
    go_enter Try.func24, Try.ntmps24
    go_wp2_with fail
    obtain ⟨G1, hG1, hsub1, st1⟩ := A0.out.left
    refine (flush_any hG1).mono ?_
    rintro e w1 ⟨G1', rfl, h1, s1⟩
    obtain ⟨H1, hA1, hS1⟩ := st1 (d.flush) _ _ h1 s1
    have A1 := Lib.hid hA1
    clear hG1 hsub1 st1 h1 s1 hA1
    obtain ⟨c0, c1, c2, c3, c4⟩ := A1.out.cells
    simp only at c0 c1 c2 c3 c4
    go_wp2_with fail
    clear c0 c1 c2 c3 c4
    obtain ⟨G2, hG2, hsub2, st2⟩ := A1.out.right
    refine (rflush_any hG2).mono ?_
    rintro e w2 ⟨G2', rfl, h2, s2⟩
    obtain ⟨H2, hA2, hS2⟩ := st2 (d.flush) _ _ h2 s2
    have A2 := Lib.hid hA2
    clear hG2 hsub2 st2 h2 s2 hA2
    obtain ⟨c0, c1, c2, c3, c4⟩ := A2.out.cells
    simp only at c0 c1 c2 c3 c4
    have hx := Hxx.out d.flushE
    go_wp2_with fail
    go_ret
    exact ⟨_, _, rfl, A2.out.T, A2.out.st⟩
  by_cases o3 : op = 3
  · subst o3
    have A0 := Lib.hid S0.out
    clear S0 o0 o1 o2
    go_enter Try.func24, Try.ntmps24
    go_wp2_with fail
    obtain ⟨G1, hG1, -, -⟩ := A0.out.left
    refine (read_any hG1 n).mono ?_
    rintro e w1 ⟨s, rfl, hl1, hr1, hf1, hn1'⟩
    have A1 := Lib.hid (A0.out.fr hf1)
    have HF1 := Lib.hid hf1
    have HR1 := Lib.hid hr1
    have HN1 := Lib.hid hn1'
    have hsv : s.val = .slice s.ao (d.readB n).length s.cap := by unfold SV.val; rw [hl1]
    rw [hsv]
    have Hsv := Lib.hid hsv
    clear hG1 hl1 hr1 hf1 hn1' hsv
    obtain ⟨c0, c1, c2, c3, c4⟩ := A1.out.cells
    simp only at c0 c1 c2 c3 c4
    go_wp2_with fail
    clear c0 c1 c2 c3 c4
    obtain ⟨G2, hG2, -, -⟩ := A1.out.right
    refine (rread_any hG2 n).mono ?_
    rintro e w2 ⟨s2, rfl, hl2, hr2, hf2, -⟩
    have HF2 := Lib.hid hf2
    have HR2 := Lib.hid (HR1.out.fr0 hf2)
    have k5 := conv_rd (RowAt.rd HR2.out) s.cap
    have k6 := conv_rd (RowAt.rd hr2) s2.cap
    have hsv2 : s2.val = .slice s2.ao (d.readB n).length s2.cap := by unfold SV.val; rw [hl2]
    rw [hsv2]
    clear hG2 hl2 hr2 hf2 hsv2
    have hx := Hxx.out (d.readE n)
    go_wp2_with fail
    rw [← Hsv.out]
    refine (owned_box HR2.out 1).mono ?_
    rintro e w3 ⟨rfl, fo⟩
    have A3 := Lib.hid (A0.out.fr (HF1.out.trans' HF2.out |>.trans fo (fun k hk => .inr (HN1.out k hk))))
    rw [Hsv.out]
    clear fo k5 k6
    go_wp2_with fail
    go_ret
    exact ⟨_, _, rfl, A3.out.T, A3.out.st⟩
  by_cases o4 : op = 4
  · subst o4
    have A0 := Lib.hid S0.out
    clear S0 o0 o1 o2 o3
    go_enter Try.func24, Try.ntmps24
    go_wp2_with fail
    obtain ⟨c0, c1, c2, c3, c4⟩ := A0.out.cells
    simp only at c0 c1 c2 c3 c4
    have HS0 := Lib.hid (And.intro c1 c2)
    clear c0 c1 c2 c3 c4
    go_region_held3 (fun W => W.cell? ⟨w.heap.size, 1, none⟩ = some (.int .i64 n) ∧ W.cell? ⟨w.heap.size, 2, none⟩ = some (.int .i64 m))
      (first | exact HS0.out | exact hS1)
      ((go_at_call 18; obtain ⟨G1, hG1, hsub1, st1⟩ := (A0.out.fr ((Fr.refl _ _).drew)).left; (with_reducible refine (arm_any hG1 n m hn1 hm0 hm1).mono ?_); rintro e w1 ⟨rfl, h1, s1⟩; obtain ⟨H1, hA1, -⟩ := st1 _ _ _ h1 s1; have hS1 := And.intro hA1.cells.2.1 hA1.cells.2.2.1))
    have A1 := Lib.hid hA1
    clear hA1 hS1 hG1 hsub1 st1 h1 s1
    obtain ⟨c0, c1, c2, c3, c4⟩ := A1.out.cells
    simp only at c0 c1 c2 c3 c4
    go_wp2_with fail
    clear c0 c1 c2 c3 c4
    obtain ⟨G2, hG2, hsub2, st2⟩ := A1.out.right
    refine (rarm_any hG2 n m hn1 hm0 hm1).mono ?_
    rintro e w2 ⟨rfl, h2, s2⟩
    obtain ⟨H2, hA2, hS2⟩ := st2 (_) _ _ h2 s2
    have A2 := Lib.hid hA2
    clear hG2 hsub2 st2 h2 s2 hA2
    obtain ⟨c0, c1, c2, c3, c4⟩ := A2.out.cells
    simp only at c0 c1 c2 c3 c4
    go_wp2_with fail
    go_ret
    exact ⟨_, _, rfl, A2.out.T, A2.out.st⟩
  by_cases o5 : op = 5
  · subst o5
    have A0 := Lib.hid S0.out
    clear S0 o0 o1 o2 o3 o4
    go_enter Try.func24, Try.ntmps24
    go_wp2_with (at_builtin; apply stop_here)
    refine ⟨?_, trivial⟩
    have f1 := (Fr.refl noBlock (w.alloc (.cells #[.int .i64 5, .int .i64 n, .int .i64 m, .slice bo b.length bc, .slice ko keep.length kc] 31))).alloc (.cells #[] 3)
    have A1 := Lib.hid (A0.out.fr f1)
    have hz1 : (w.alloc (.cells #[.int .i64 5, .int .i64 n, .int .i64 m, .slice bo b.length bc, .slice ko keep.length kc] 31)).heap.size = w.heap.size + 1 := by simp
    have Hz1 := Lib.hid hz1
    have own1 := World.ownsRow_made (w.alloc (.cells #[.int .i64 5, .int .i64 n, .int .i64 m, .slice bo b.length bc, .slice ko keep.length kc] 31)) #[] 0 (Nat.le_refl _) (Nat.zero_le _) rfl (e := 3) (size := IntR.k)
    rw [hz1] at own1
    clear hz1
    refine wpList_app rfl _ _ rfl el_ints (v := .slice (some ⟨w.heap.size + 1, 0, none⟩) 0 0) [] keep keep rfl (w.heap.size + 1) 0 keep.length rfl rfl own1 rfl A1.out.bk.rd rfl (by unfold maxLen; omega) (by omega) (by simp) ?_
    intro ak ck w2 o2 g2 _
    go_frame
    have HO2 := Lib.hid (RowAt.of_own o2 rfl)
    have HN2 := Lib.hid (fun k hk => (o2.lt k hk).1)
    have A2 := Lib.hid (A0.out.fr (f1.grown g2 (fun k hk => by cases hk; exact .inr (Nat.le_of_eq Hz1.out))))
    have B2 := Lib.hid (Bes.new (F := H) (w0 := w.alloc (.cells #[.int .i64 5, .int .i64 n, .int .i64 m, .slice bo b.length bc, .slice ko keep.length kc] 31)) HO2.out (fun k hk => by rw [Hz1.out]; exact HN2.out k hk) A0.out.lt)
    clear o2 g2 f1 own1
    obtain ⟨c0, c1, c2, c3, c4⟩ := A2.out.cells
    simp only at c0 c1 c2 c3 c4
    go_wp2_with fail
    clear c0 c1 c2 c3 c4
    obtain ⟨G3, hG3, hsub3, st3⟩ := A2.out.left
    refine (boot_any hG3 (Beside.of (B2.out.sub hsub3)) ck (by omega)).mono ?_
    rintro e w3 ⟨G3', rfl, h3, s3⟩
    obtain ⟨H3, hA3, hS3⟩ := st3 (d.boot keep) _ _ h3 s3
    have A3 := Lib.hid hA3
    have B3 := Lib.hid (B2.out.step hS3)
    clear hG3 hsub3 st3 h3 s3 hA3 hS3
    obtain ⟨c0, c1, c2, c3, c4⟩ := A3.out.cells
    simp only at c0 c1 c2 c3 c4
    go_wp2_with fail
    clear c0 c1 c2 c3 c4
    obtain ⟨G4, hG4, hsub4, st4⟩ := A3.out.right
    refine (rboot_any hG4 (Beside.of (A3.out.bk.sub hsub4)) kc (by show keep.length ≤ _; omega)).mono ?_
    rintro e w4 ⟨G4', rfl, h4, s4⟩
    obtain ⟨H4, hA4, hS4⟩ := st4 (d.boot keep) _ _ h4 s4
    have A4 := Lib.hid hA4
    have B4 := Lib.hid (B3.out.step hS4)
    clear hG4 hsub4 st4 h4 s4 hA4 hS4
    go_wp2_with fail
    go_loopw [17] (fun s17 wr => ∃ i : Nat, i ≤ keep.length ∧ s17 = .int .i64 i ∧ Fr noBlock w4 wr) (fun s17 _ => keep.length - (intOf s17).toNat)
    case atStart => exact ⟨0, Nat.zero_le _, rfl, Fr.refl _ _⟩
    case round =>
      obtain ⟨i, hi, rfl, hf⟩ := hrel
      have Hf := Lib.hid hf
      have c4 := (A4.out.fr hf).cells.2.2.2.2
      simp only at c4
      clear hf
      by_cases hlt : i < keep.length
      · have q1 : (i : Int) < (keep.length : Int) := by omega
        have q0 : (0 : Int) ≤ (i : Int) := by omega
        obtain ⟨b1, of1, rfl, _, _⟩ := (B4.out.fr Hf.out).rd.at' i hlt
        have y0 := int_rd (B4.out.fr Hf.out).rd hlt
        have hk5 : RowRd IntR wr ko keep := (A4.out.fr Hf.out).bk.rd
        obtain ⟨b2, of2, rfl, _, _⟩ := hk5.at' i hlt
        have y1 := int_rd hk5 hlt
        generalize keep[i] = kv at *
        have hx : (kv != kv) = false := by simp
        clear hk5
        go_wp2_with fail
        go_quiet (fail)
        go_wp2_with fail
        go_roundw
        case rel => exact ⟨i + 1, by omega, by go_num, Hf.out.drewN _⟩
        case measure => simp [intOf]; omega
      · have q1 : (keep.length : Int) ≤ (i : Int) := by omega
        have A5 := Lib.hid (A4.out.fr Hf.out)
        go_wp2_with fail
        go_ret
        exact ⟨_, _, rfl, A5.out.T, A5.out.st⟩
  have S1 := Lib.hid S0.out
  clear S0
  go_enter Try.func24, Try.ntmps24
  go_wp2_with fail
  go_ret
  exact ⟨_, _, rfl, S1.out.T, S1.out.st⟩
end Go.Proofs.Ytmcckppmciflmaa
