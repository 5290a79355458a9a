/-
  THE WALK of the journal law's commit: on both sides.
-/
import Derived.Test.YtmcckppmciflmaaRjLent
import Derived.Test.YtmcckppmciflmaaJnCommit
namespace Go.Proofs.Ytmcckppmciflmaa
open Go.RowKit

def SDoP (s l l2 : Nat) (H : Nat → Prop) (w : World) (e : Ending) (w' : World) : Prop := ∃ d' m' H', e = .returned (.bool true) ∧ SideT s l l2 d' d' m' w' H' ∧ Step H H' w w'
def SComP (s l l2 : Nat) (d : DK) (H : Nat → Prop) (w : World) (e : Ending) (w' : World) : Prop := ∃ d' m' H', e = .returned (.bool true) ∧ SideT s l l2 d' d' m' w' H' ∧ Step H H' w w' ∧ d'.size = d.size
theorem commit_size (d : DK) (bad : Int) (l : List JW) : (commitR d bad l).1.size = d.size := by
  unfold commitR
  split
  · rfl
  · split
    · rfl
    · split
      · rfl
      · exact jrun_size _ _
theorem dirt_cells {w : World} {ao : Option Addr} {xs : List (Int × SV)} (h : RowRd DirtR w ao xs) {i : Nat} (hi : i < xs.length) : ∃ b off, ao = some ⟨b, off, none⟩ ∧ w.cell? ⟨b, off + i * 2, none⟩ = some (.int .i64 xs[i].1) ∧ w.cell? ⟨b, off + i * 2 + 1, none⟩ = some xs[i].2.val := by
  obtain ⟨b, off, e, hb, h3⟩ := h.at' i hi
  exact ⟨b, off, e, h3 0 _ rfl, h3 1 _ rfl⟩
theorem own_eq {g n c k : Nat} (h : (SV.val ⟨some ⟨g, 0, none⟩, n, c⟩).ownBlock = some k) : g = k := by simpa [SV.val, Value.ownBlock] using h
theorem jw_take {l : List JW} {i : Nat} (hi : i < l.length) : l.take (i + 1) = l.take i ++ [(l[i].1, l[i].2)] := by
  rw [List.take_succ_eq_append_getElem hi]
set_option maxRecDepth 100000 in
set_option maxHeartbeats 3200000 in
theorem scommit_any {s l l2 : Nat} {d : DK} {m : JSt} {w : World} {H : Nat → Prop} (h : SideT s l l2 d d m w H) {lo : Option Addr} {us : List (Int × SV)} {ls : List JW} (hw : JWrs w H lo us ls) (lc : Nat) (hb : ls.length * 32 ≤ 140737488351232) (hmax : ∀ q ∈ ls, q.2.length ≤ 140737488351232) :
    Calls Try.prog 61 #[.pointer (some ⟨s, 0, none⟩), .slice lo ls.length lc] w (SComP s l l2 d H w) := by
  have HH := Lib.hid h
  have HW := Lib.hid hw
  have HMax := Lib.hid hmax
  have HMax9 := Lib.hid (fun q hq => by have := hmax q hq; omega : ∀ q ∈ ls, q.2.length ≤ 9223372036854775807)
  have Hxx := Lib.hid (fun x : Int => (by simp : (x == x) = true))
  have HHlt := Lib.hid (SideT.ok.lt h)
  clear h hw hmax
  rcases m with _ | ⟨j, y, bad⟩
  · obtain ⟨c0, c1, c2, c3, -, -⟩ := SM.cells (show SM s l l2 none none _ _ _ _ from HH.out)
    simp only [ptrO] at c2 c3
    go_enter Try.func61, Try.ntmps61
    go_wp2_with fail
    go_ret
    exact ⟨d, none, H, rfl, HH.out, Step.refl _ _, rfl⟩
  obtain ⟨c0, c1, c2, c3, -, -⟩ := SM.cells (show SM s l l2 (some j) (some y) _ _ _ _ from HH.out)
  simp only [ptrO] at c2 c3
  go_enter Try.func61, Try.ntmps61
  go_wp2_with fail
  clear c0 c1 c2 c3
  go_loopw [5, 6] (fun s5 s6 wr => ∃ (i : Nat) (lo1 : Option Addr) (lc1 : Nat) (vs : List (Int × SV)), i ≤ ls.length ∧ s6 = .int .i64 i ∧ s5 = .slice lo1 i lc1 ∧ Hid (LentW w wr lo1 i lc1 vs (ls.take i))) (fun _ s6 _ => ls.length - (intOf s6).toNat)
  case atStart => exact ⟨0, none, 0, [], Nat.zero_le _, rfl, rfl, Lib.hid (LentW.nil (Fr.refl _ _))⟩
  case round =>
    obtain ⟨i, lo1, lc1, vs, hi, rfl, rfl, HO⟩ := hrel
    have hsz := HO.out.o.fr.size
    by_cases hlt : i < ls.length
    · have q1 : (i : Int) < (ls.length : Int) := by omega
      have q0 : (0 : Int) ≤ (i : Int) := by omega
      obtain ⟨b, off, t, rfl, hbl, y0, y1, -, hsn, hbb⟩ := (HW.out.fr HO.out.o.fr).at' hlt
      have hmx := HMax.out ls[i] (List.getElem_mem hlt)
      have htk := jw_take hlt
      generalize ls[i] = q at *
      obtain ⟨qn, qb⟩ := q
      obtain ⟨sa, sn, sc⟩ := t
      simp only at hsn y0 y1 hmx htk hbb
      have Htk := Lib.hid htk
      have HBb := Lib.hid hbb
      have hi' : i + 1 ≤ ls.length := by omega
      have hbw : ¬ w.heap.size ≤ b := by
        obtain ⟨b', off', _, e, hb', _⟩ := HW.out.at' hlt
        cases e
        omega
      have HY := Lib.hid (fun (W : World) (hW : Fr (fun k => w.heap.size ≤ k) wr W) => And.intro ((hW.cell (p := ⟨b, off + i * 2, none⟩) hbl hbw).trans y0) ((hW.cell (p := ⟨b, off + i * 2 + 1, none⟩) hbl hbw).trans y1))
      clear htk hbb hlt y0 y1 hsn
      go_wp2_with fail
      go_region_held3 (fun W => W.cell? ⟨b, off + i * 2, none⟩ = some (.int .i64 qn) ∧ W.cell? ⟨b, off + i * 2 + 1, none⟩ = some (.slice sa qb.length sc))
        (first | exact HY.out _ ((Fr.refl _ _).drew) | exact HY.out _ ((((Fr.refl noBlock _).drew).trans' h5c).mono (fun _ x => x.elim)) | exact HY.out _ (((((Fr.refl noBlock _).drew).trans' h5c).alloc _).mono (fun _ x => x.elim)) | exact HY.out _ hfB)
        (first
          | (go_at_call 42; (with_reducible refine (lent_any (b := qb) (HBb.out.fr ((Fr.refl _ _).drew)).rd sc hmx).mono ?_); rintro e w5 ⟨g, rfl, h5a, h5b, h5c⟩)
          | (refine step_app (by rfl) _ _ (by rfl) el_writes (v := .slice lo1 i lc1) vs [(qn, (⟨some ⟨g, 0, none⟩, qb.length, qb.length + 1⟩ : SV))] (vs ++ [(qn, (⟨some ⟨g, 0, none⟩, qb.length, qb.length + 1⟩ : SV))]) rfl w.heap.size i (i + 1) (by rw [List.length_append, HO.out.o.len]; rfl) (by rfl) (HO.out.o.own' ((((Fr.refl _ _).drew).trans' h5c).alloc _)) (by rfl) (RowRd.one (heap_new w5 _) (qn, (⟨some ⟨g, 0, none⟩, qb.length, qb.length + 1⟩ : SV)) rfl) rfl (by unfold maxLen; omega) (by omega) (by have := h5c.size; simp at this ⊢; omega) ?_; intro lo6 lc6 w6 o6 g6 a6; have hfB : Fr (fun k => w.heap.size ≤ k) wr w6 := (((((Fr.refl noBlock wr).drew).trans' h5c).alloc (.cells #[.int .i64 qn, .slice (some ⟨g, 0, none⟩) qb.length (qb.length + 1)] 69)).mono (T := fun k => w.heap.size ≤ k) (fun _ x => x.elim)).grown g6 (fun k hk => .inl (HO.out.o.own.lt k hk).1)))
      have hM := HO.out.more ((((Fr.refl noBlock wr).drew).trans' h5c).alloc (.cells #[.int .i64 qn, .slice (some ⟨g, 0, none⟩) qb.length (qb.length + 1)] 69)) (x := qn) (b := qb) (g := g) (h5a.fr0 ((Fr.refl noBlock w5).alloc _)) h5b o6 rfl g6
      rw [← Htk.out] at hM
      have HM := Lib.hid hM
      clear hM o6 g6 a6 hfB h5a h5b h5c
      go_wp2_with fail
      go_roundw
      case rel => exact ⟨i + 1, lo6, lc6, _, hi', by go_num, rfl, HM⟩
      case measure => simp [intOf]; omega
    · have q1 : (ls.length : Int) ≤ (i : Int) := by omega
      have e : i = ls.length := by omega
      subst e
      rw [List.take_length] at HO
      clear hlt
      have hH1 : SideT s l l2 d d (some (j, y, bad)) wr H := SideT.ok.fr0 HH.out HO.out.o.fr
      have A1 := Lib.hid (And.intro hH1 (Step.same (F := H) HO.out.o.fr))
      obtain ⟨c0, c1, c2, c3, -, -⟩ := SM.cells (show SM s l l2 (some j) (some y) _ _ _ _ from hH1)
      simp only [ptrO] at c2 c3
      clear hH1
      go_wp2_with fail
      obtain ⟨G, hG, hsub, st⟩ := SM.left PR.ok A1.out.1
      refine (jcommit_any hG ((HO.out.o.jwrs HHlt.out).sub hsub) lc1 HO.out.o.cap (by omega) HMax9.out).mono ?_
      rintro e w1 ⟨G1, rfl, hJ, sJ⟩
      obtain ⟨H2, h2, s2⟩ := st _ _ _ hJ sJ
      have A2 := Lib.hid (And.intro h2 (A1.out.2.trans s2))
      have S2 := Lib.hid s2
      clear hG hsub st hJ sJ h2 s2 c0 c1 c2 c3
      obtain ⟨c0, c1, c2, c3, -, -⟩ := SM.cells (show SM s l l2 (some j) (some y) _ _ _ _ from A2.out.1)
      simp only [ptrO] at c2 c3
      go_wp2_with fail
      obtain ⟨G, hG, hsub, st⟩ := SM.right JAt.ok A2.out.1
      refine (rcommit_any hG ((HW.out.step A2.out.2).sub hsub) lc (by omega) HMax9.out).mono ?_
      rintro e w2 ⟨G2, rfl, hJ, sJ⟩
      obtain ⟨H3, h2, s2⟩ := st _ _ _ hJ sJ
      have A3 := Lib.hid (And.intro h2 (A2.out.2.trans s2))
      have S3 := Lib.hid (S2.out.trans s2)
      have hR := (((HO.out.o.jwrs HHlt.out).rows).step S3.out).rd
      have HR := Lib.hid hR
      have HL := Lib.hid (HO.out.left S3.out.fr HHlt.out)
      have HGn := Lib.hid HO.out.gs_new
      have HGr := Lib.hid (fun k (hk : (Value.slice lo1 ls.length lc1).ownBlock = some k) => HO.out.gs_row hk)
      have HDf := Lib.hid HO.out.diff
      have hvl := HO.out.o.len
      have HEq := Lib.hid (fun (i : Nat) (p : Int × SV) (q : JW) (a : vs[i]? = some p) (c : ls[i]? = some q) => (HO.out.o.each i p q a c).1)
      have HAp := Lib.hid (fun (k : Nat) (hk : GS vs k) => (S3.out.keep (HO.out.gs_lt k hk) (fun h => by have := HHlt.out k h; have := HO.out.gs_new k hk; omega)).2.2)
      obtain ⟨x, hx⟩ : ∃ x, (commitR d bad ls).2.2 = x := ⟨_, rfl⟩
      rw [hx]
      clear hG hsub st hJ sJ h2 s2 c0 c1 c2 c3 hR hx
      go_wp2_with fail
      go_loopw [9, 10] (fun s9 s10 wr => ∃ i : Nat, i ≤ ls.length ∧ s10 = .int .i64 i ∧ s9 = .bool true ∧ Hid (Fr (GS vs) w2 wr ∧ LeftW wr vs ls i)) (fun _ s10 _ => ls.length - (intOf s10).toNat)
      case atStart => exact ⟨0, Nat.zero_le _, rfl, rfl, Lib.hid ⟨Fr.refl _ _, HL.out⟩⟩
      case round =>
        obtain ⟨i, hi, rfl, rfl, HI⟩ := hrel
        have hT : Step H H3 w wr := A3.out.2.news (S := GS vs) HI.out.1 HGn.out
        by_cases hlt : i < ls.length
        · have q1 : (i : Int) < (ls.length : Int) := by omega
          have q0 : (0 : Int) ≤ (i : Int) := by omega
          have hiv : i < vs.length := by omega
          obtain ⟨b, off, t, rfl, hbl, y0, y1, -, hsn, hbb⟩ := (HW.out.step hT).at' hlt
          have hR' : RowRd DirtR wr lo1 vs := HR.out.fr HI.out.1 (fun _ _ e => HGr.out _ (by rw [e]; rfl))
          obtain ⟨b2, off2, rfl, x0, x1⟩ := dirt_cells hR' hiv
          have hvi : vs[i]? = some vs[i] := List.getElem?_eq_getElem hiv
          have hli : ls[i]? = some ls[i] := List.getElem?_eq_getElem hlt
          obtain ⟨g, eg, hL⟩ := HI.out.2 i _ _ (Nat.le_refl _) hvi hli
          have hfst := HEq.out i _ _ hvi hli
          have hmx := HMax.out ls[i] (List.getElem_mem hlt)
          have HLn := Lib.hid (fun (W : World) (hf : Fr (fun k => g = k) wr W) => HI.out.2.next HDf.out hvi (by rw [eg]) hf)
          have HGg := Lib.hid (show GS vs g from ⟨i, _, hvi, by rw [eg]; rfl⟩)
          rw [eg] at x1
          rw [hfst] at x0
          have hi' : i + 1 ≤ ls.length := by omega
          clear hvi hli eg hfst hR' hT
          generalize ls[i] = q at *
          obtain ⟨qn, qb⟩ := q
          obtain ⟨sa, sn, sc⟩ := t
          unfold SV.val at x1
          simp only at hsn y0 y1 x0 x1 hmx hbb hL
          have HLe := Lib.hid hL
          have HBb := Lib.hid hbb.rd
          have Hc0 := Lib.hid (And.intro x0 y0)
          have Hc1 := Lib.hid (And.intro x1 y1)
          have hxx := Hxx.out qn
          clear hL hbb x0 y0 x1 y1 hsn hlt
          go_wp2_with fail
          go_region_held3 (fun W => W.cell? ⟨b2, off2 + i * 2 + 1, none⟩ = some (.slice (some ⟨g, 0, none⟩) qb.length (qb.length + 1)) ∧ W.cell? ⟨b, off + i * 2 + 1, none⟩ = some (.slice sa qb.length sc))
            (exact Hc1.out)
            ((go_at_call 43; (with_reducible refine (kept_any (HLe.out.fr0 ((Fr.refl _ _).drew)) (HBb.out.fr0 ((Fr.refl _ _).drew)) sc hmx).mono ?_); rintro e w5 ⟨rfl, rfl⟩))
          go_upto_region 15 with (fail)
          refine wp_at (φ := fun W => Fr noBlock wr W) ((Fr.refl _ _).drew) ?_
          rintro w5 f5
          have F5 := Lib.hid f5
          have z0 := (f5.cell (p := ⟨b2, off2 + i * 2, none⟩) (lt_of_cell Hc0.out.1) (fun x => x)).trans Hc0.out.1
          have z1 := (f5.cell (p := ⟨b, off + i * 2, none⟩) (lt_of_cell Hc0.out.2) (fun x => x)).trans Hc0.out.2
          have z2 := (f5.cell (p := ⟨b2, off2 + i * 2 + 1, none⟩) (lt_of_cell Hc1.out.1) (fun x => x)).trans Hc1.out.1
          clear f5
          go_wp2_with fail
          go_quiet (fail)
          go_wp2_with fail
          refine (owned_box (s := ⟨some ⟨g, 0, none⟩, qb.length, qb.length + 1⟩) ((HLe.out.fr0 (F5.out.drewN _)).row) 1).mono ?_
          rintro e w6 ⟨rfl, fo⟩
          have hf6 : Fr (fun k => g = k) wr w6 := ((F5.out.drewN _).mono (fun _ x => x.elim)).trans fo (fun k hk => .inl (own_eq hk))
          have HI6 := Lib.hid (And.intro (HI.out.1.trans hf6 (fun k hk => .inl (by have hk' : g = k := hk; subst hk'; exact HGg.out))) (HLn.out w6 hf6))
          clear fo hf6 z0 z1 z2
          go_wp2_with fail
          go_roundw
          case rel => exact ⟨i + 1, hi', by go_num, rfl, HI6⟩
          case measure => simp [intOf]; omega
        · have q1 : (ls.length : Int) ≤ (i : Int) := by omega
          have hxx := Hxx.out x
          have HT := Lib.hid hT
          clear hlt hT
          go_wp2_with fail
          go_ret
          exact ⟨_, some (j, y, _), H3, rfl, SideT.ok.fr A3.out.1 HI.out.1 (fun k hk hs => HAp.out k hs hk), HT.out, commit_size _ _ _⟩
end Go.Proofs.Ytmcckppmciflmaa
