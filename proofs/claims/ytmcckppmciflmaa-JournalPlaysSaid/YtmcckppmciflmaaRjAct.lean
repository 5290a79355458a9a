/-
  THE WALK of the journal law's act: an act on both sides.
-/
import Derived.Deep.RegionHeld3
import Derived.Test.YtmcckppmciflmaaRjScom
import Derived.Test.YtmcckppmciflmaaJnOpenZ
import Derived.Test.YtmcckppmciflmaaRdBoot
namespace Go.Proofs.Ytmcckppmciflmaa
open Go.RowKit

theorem madeL_len (l : List JW) (m : Nat) : (madeL l m).length = l.length := by simp [madeL]
theorem madeL_maxZ {l : List JW} {m : Nat} (hm : m ≤ 4096) : ∀ q ∈ madeL l m, q.2.length ≤ 140737488351232 := by
  intro q hq
  unfold madeL at hq
  obtain ⟨v, _, rfl⟩ := List.mem_map.1 hq
  show (fillB v.2 m).length ≤ _
  rw [fillB_len]
  omega
/-- both sides, the boxed act, its rows, while steps are made -/
structure JS (s l l2 : Nat) (d1 d2 : DK) (m : JSt) (b : Nat) (a : JAct) (us : List (Int × SV)) (w0 w : World) (H0 H : Nat → Prop) : Prop where
  T : SideT s l l2 d1 d2 m w H
  st : Step H0 H w0 w
  bx : Bes JActR (some ⟨b, 0, none⟩) [a] w H
  ws : JWrs w H a.lo us a.l
  bk : Bes IntR a.ko a.keep w H
  bb : Bes ByteR a.bo a.b w H
namespace JS
variable {s l l2 : Nat} {d1 d2 : DK} {m : JSt} {b : Nat} {a : JAct} {us : List (Int × SV)} {w0 w w' : World} {H0 H : Nat → Prop}
theorem step {d1' d2' : DK} {m' : JSt} {H' : Nat → Prop} (h : JS s l l2 d1 d2 m b a us w0 w H0 H) (t : SideT s l l2 d1' d2' m' w' H') (st : Step H H' w w') : JS s l l2 d1' d2' m' b a us w0 w' H0 H' :=
  ⟨t, h.st.trans st, h.bx.step st, h.ws.step st, h.bk.step st, h.bb.step st⟩
theorem fr (h : JS s l l2 d1 d2 m b a us w0 w H0 H) (f : Fr noBlock w w') : JS s l l2 d1 d2 m b a us w0 w' H0 H := h.step (SideT.ok.fr0 h.T f) (Step.same f)
theorem left (h : JS s l l2 d1 d2 m b a us w0 w H0 H) : ∃ G, DiskAt l d1 w G ∧ (∀ k, G k → H k) ∧ ∀ (d1' : DK) (w' : World) (G' : Nat → Prop), DiskAt l d1' w' G' → Step G G' w w' → ∃ H', JS s l l2 d1' d2 m b a us w0 w' H0 H' ∧ Step H H' w w' := by
  obtain ⟨G, g1, g2, g3⟩ := h.T.left
  refine ⟨G, g1, g2, fun d' w' G' h' hs => ?_⟩
  obtain ⟨H', t, st⟩ := g3 d' w' G' h' hs
  exact ⟨H', h.step t st, st⟩
theorem right (h : JS s l l2 d1 d2 m b a us w0 w H0 H) : ∃ G, RDiskAt l2 d2 w G ∧ (∀ k, G k → H k) ∧ ∀ (d2' : DK) (w' : World) (G' : Nat → Prop), RDiskAt l2 d2' w' G' → Step G G' w w' → ∃ H', JS s l l2 d1 d2' m b a us w0 w' H0 H' ∧ Step H H' w w' := by
  obtain ⟨G, g1, g2, g3⟩ := h.T.right
  refine ⟨G, g1, g2, fun d' w' G' h' hs => ?_⟩
  obtain ⟨H', t, st⟩ := g3 d' w' G' h' hs
  exact ⟨H', h.step t st, st⟩
theorem cells (h : JS s l l2 d1 d2 m b a us w0 w H0 H) : w.cell? ⟨b, 0, none⟩ = some (.int .i64 a.op) ∧ w.cell? ⟨b, 1, none⟩ = some (.int .i64 a.n) ∧ w.cell? ⟨b, 2, none⟩ = some (.int .i64 a.m) ∧ w.cell? ⟨b, 3, none⟩ = some (.slice a.lo a.l.length a.lc) ∧ w.cell? ⟨b, 4, none⟩ = some (.slice a.ko a.keep.length a.kc) ∧ w.cell? ⟨b, 5, none⟩ = some (.slice a.bo a.b.length a.bc) := by
  obtain ⟨b', off, e, _, c0, c1, c2, c3, c4, c5⟩ := jact_cells h.bx.rd (i := 0) (by simp)
  cases e
  simpa using ⟨c0, c1, c2, c3, c4, c5⟩
theorem scells (h : JS s l l2 d1 d2 m b a us w0 w H0 H) : w.cell? ⟨s, 0, none⟩ = some (.pointer (some ⟨l, 0, none⟩)) ∧ w.cell? ⟨s, 1, none⟩ = some (.pointer (some ⟨l2, 0, none⟩)) ∧ w.cell? ⟨s, 2, none⟩ = some (ptrO m.p) ∧ w.cell? ⟨s, 3, none⟩ = some (ptrO m.q) := by
  obtain ⟨c0, c1, c2, c3, -, -⟩ := SM.cells h.T
  exact ⟨c0, c1, c2, c3⟩
theorem jat {j y : Nat} {bad : Int} (h : JS s l l2 d1 d2 (some (j, y, bad)) b a us w0 w H0 H) : (∃ G, JAt j l d1 bad w G) ∧ (∃ G, RJAt y l2 d2 bad w G) ∧ w.cell? ⟨s, 2, none⟩ = some (.pointer (some ⟨j, 0, none⟩)) ∧ w.cell? ⟨s, 3, none⟩ = some (.pointer (some ⟨y, 0, none⟩)) := by
  obtain ⟨G1, h1, -, -⟩ := SM.left PR.ok h.T
  obtain ⟨G2, h2, -, -⟩ := SM.right PJ.ok h.T
  exact ⟨⟨G1, h1⟩, ⟨G2, h2⟩, h.scells.2.2.1, h.scells.2.2.2⟩
theorem lt (h : JS s l l2 d1 d2 m b a us w0 w H0 H) : ∀ k, H k → k < w.heap.size := SideT.ok.lt h.T
theorem dsize (h : JS s l l2 d1 d2 m b a us w0 w H0 H) : w.cell? ⟨l2, 2, none⟩ = some (.int .i64 d2.size) ∧ d2.size ≤ 4096 := by
  obtain ⟨G, hG, -, -⟩ := h.right
  exact ⟨hG.cells.choose_spec.choose_spec.2.1, hG.good.s1⟩
theorem write (h : JS s l l2 d1 d2 m b a us w0 w H0 H) (n : Int) {ao : Option Addr} {bs : Bs} (hb : Bes ByteR ao bs w H) (cap : Nat) (hbn : bs.length ≤ 9223372036854775807) {k : Nat} (hk : bs.length = k) :
    Calls Try.prog 13 #[.pointer (some ⟨l, 0, none⟩), .int .i64 n, .slice ao k cap] w fun e w' => ∃ H', e = .returned (.int .i64 (d1.writeE n k)) ∧ JS s l l2 (d1.write n bs) d2 m b a us w0 w' H0 H' ∧ Step H H' w w' := by
  subst hk
  obtain ⟨G, hG, hsub, st⟩ := h.left
  refine (write_any0 hG n hb.rd (fun h0 a e hk => (hb.ap h0 a e).1 (hsub _ hk)) cap hbn).mono ?_
  rintro e w' ⟨G', rfl, h1, s1⟩
  obtain ⟨H', h2, s2⟩ := st _ _ _ h1 s1
  exact ⟨H', rfl, h2, s2⟩
theorem rwrite (h : JS s l l2 d1 d2 m b a us w0 w H0 H) (n : Int) {ao : Option Addr} {bs : Bs} (hb : Bes ByteR ao bs w H) (cap : Nat) (hbn : bs.length ≤ 9223372036854775807) {k : Nat} (hk : bs.length = k) :
    Calls Try.prog 45 #[.pointer (some ⟨l2, 0, none⟩), .int .i64 n, .slice ao k cap] w fun e w' => ∃ H', e = .returned (.int .i64 (d2.writeE n k)) ∧ JS s l l2 d1 (d2.write n bs) m b a us w0 w' H0 H' ∧ Step H H' w w' := by
  subst hk
  obtain ⟨G, hG, hsub, st⟩ := h.right
  refine (rwrite_any hG n hb.rd (fun h0 a e hk => (hb.ap h0 a e).1 (hsub _ hk)) cap hbn).mono ?_
  rintro e w' ⟨G', rfl, h1, s1⟩
  obtain ⟨H', h2, s2⟩ := st _ _ _ h1 s1
  exact ⟨H', rfl, h2, s2⟩
end JS
def JAct.val (a : JAct) : Value := .agg #[.int .i64 a.op, .int .i64 a.n, .int .i64 a.m, .slice a.lo a.l.length a.lc, .slice a.ko a.keep.length a.kc, .slice a.bo a.b.length a.bc]
theorem JS.start {s l l2 : Nat} {d : DK} {m : JSt} {w : World} {H : Nat → Prop} (hT : SideT s l l2 d d m w H) (a : JAct) {us : List (Int × SV)} (hw : JWrs w H a.lo us a.l) (hk : Bes IntR a.ko a.keep w H) (hb : Bes ByteR a.bo a.b w H) :
    JS s l l2 d d m w.heap.size a us w (w.alloc (.cells #[.int .i64 a.op, .int .i64 a.n, .int .i64 a.m, .slice a.lo a.l.length a.lc, .slice a.ko a.keep.length a.kc, .slice a.bo a.b.length a.bc] 64)) H H := by
  have f := (Fr.refl noBlock w).alloc (.cells #[.int .i64 a.op, .int .i64 a.n, .int .i64 a.m, .slice a.lo a.l.length a.lc, .slice a.ko a.keep.length a.kc, .slice a.bo a.b.length a.bc] 64)
  have hlt := SideT.ok.lt hT
  refine ⟨SideT.ok.fr0 hT f, Step.same f, ⟨RowRd.one (heap_new w _) a rfl, fun _ p e => ?_⟩, hw.fr f, hk.fr f, hb.fr f⟩
  cases e
  exact ⟨fun h => Nat.lt_irrefl _ (hlt _ h), by simp⟩
set_option maxRecDepth 100000 in
set_option maxHeartbeats 6400000 in
theorem jact_any {s l l2 : Nat} {d : DK} {m : JSt} {w : World} {H : Nat → Prop} (hT : SideT s l l2 d d m w H) (a : JAct) {us : List (Int × SV)} (hw : JWrs w H a.lo us a.l) (hlb : a.l.length * 32 ≤ 140737488351232) (hmax : ∀ q ∈ a.l, q.2.length ≤ 140737488351232) (hk : Bes IntR a.ko a.keep w H) (hb : Bes ByteR a.bo a.b w H)
    (hn : i64B a.n) (hm : i64B a.m) (hkl : a.keep.length * 8 ≤ 140737488351232) (hbl : a.b.length ≤ 140737488351232) :
    Calls Try.prog 35 #[.pointer (some ⟨s, 0, none⟩), a.val] w (SDoP s l l2 H w) := by
  obtain ⟨op, n, mm, lo, lc, ls, ko, kc, keep, bo, bc, b⟩ := a
  have S0 := Lib.hid (JS.start hT ⟨op, n, mm, lo, lc, ls, ko, kc, keep, bo, bc, b⟩ hw hk hb)
  obtain ⟨hn0, hn1⟩ := hn
  obtain ⟨hm0, hm1⟩ := hm
  simp only at hn0 hn1 hm0 hm1 hkl hbl hlb hmax
  have Hxx := Lib.hid (fun x : Int => (by simp : (x == x) = true))
  have HMax := Lib.hid hmax
  have HMax9 := Lib.hid (fun q hq => by have := hmax q hq; omega : ∀ q ∈ ls, q.2.length ≤ 9223372036854775807)
  have Hcapb := Lib.hid hb
  clear hT hw hk hb hmax Hcapb
  unfold JAct.val
  simp only
  by_cases o0 : op = 0
  · subst o0
    have A0 := Lib.hid S0.out
    clear S0
    go_enter Try.func35, Try.ntmps35
    obtain ⟨c0, c1, c2, c3, c4, c5⟩ := A0.out.cells
    simp only at c0 c1 c2 c3 c4 c5
    obtain ⟨e0, e1, e2, e3⟩ := A0.out.scells
    obtain ⟨z1, z2⟩ := A0.out.dsize
    have HS0 := Lib.hid (And.intro c3 (And.intro e1 z1))
    have hml := madeL_len ls d.size
    have Hmz := Lib.hid (madeL_maxZ (l := ls) z2)
    go_wp2_with fail
    clear c0 c1 c2 c3 c4 c5 e0 e1 e2 e3
    clear z1
    go_region_held3 (fun W => W.cell? ⟨w.heap.size, 3, none⟩ = some (.slice lo ls.length lc) ∧ W.cell? ⟨s, 1, none⟩ = some (.pointer (some ⟨l2, 0, none⟩)) ∧ W.cell? ⟨l2, 2, none⟩ = some (.int .i64 d.size))
      (first | exact HS0.out | exact hS1 | exact hS2)
      (first
        | (go_at_call 29; (with_reducible refine (made_any (A0.out.fr ((Fr.refl _ _).drew)).ws lc hlb HMax9.out d.size z2).mono ?_); rintro e w1 ⟨ro, rc, vs, rfl, hO⟩; have hA1 := (A0.out.fr ((Fr.refl _ _).drew)).fr hO.fr; have hS1 := And.intro hA1.cells.2.2.2.1 (And.intro hA1.scells.2.1 hA1.dsize.1); have hJ := hO.jwrs (A0.out.fr ((Fr.refl _ _).drew)).lt)
        | (go_at_call 61; have hsc := scommit_any hA1.T hJ rc (by omega) Hmz.out; rw [hml] at hsc; (with_reducible refine hsc.mono ?_); rintro e w2 ⟨d', m', H', rfl, t2, s2, z3⟩; have hA2 := hA1.step t2 s2; have hz := hA2.dsize.1; rw [z3] at hz; have hS2 := And.intro hA2.cells.2.2.2.1 (And.intro hA2.scells.2.1 hz)))
    have A2 := Lib.hid (hA1.step t2 s2)
    clear t2 s2 hA1 hS1 hJ hO hsc hA2 hS2 hz
    go_wp2_with fail
    go_ret
    exact ⟨_, _, _, rfl, A2.out.T, A2.out.st⟩
  by_cases o1 : op = 1
  · subst o1
    have A0 := Lib.hid S0.out
    clear S0 o0
    go_enter Try.func35, Try.ntmps35
    obtain ⟨c0, c1, c2, c3, c4, c5⟩ := A0.out.cells
    simp only at c0 c1 c2 c3 c4 c5
    obtain ⟨e0, e1, e2, e3⟩ := A0.out.scells
    go_wp2_with fail
    clear c0 c1 c2 c3 c4 c5 e0 e1 e2 e3
    refine (scommit_any A0.out.T A0.out.ws lc hlb HMax.out).mono ?_
    rintro e w2 ⟨d', m', H', rfl, t2, s2, -⟩
    have A2 := Lib.hid (A0.out.step t2 s2)
    clear t2 s2
    go_wp2_with fail
    go_ret
    exact ⟨_, _, _, rfl, A2.out.T, A2.out.st⟩
  by_cases o2 : op = 2
  · subst o2
    have A0 := Lib.hid S0.out
    clear S0 o0 o1
    go_enter Try.func35, Try.ntmps35
    obtain ⟨c0, c1, c2, c3, c4, c5⟩ := A0.out.cells
    simp only at c0 c1 c2 c3 c4 c5
    obtain ⟨e0, e1, e2, e3⟩ := A0.out.scells
    rcases m with _ | ⟨j, y, bad⟩
    · obtain ⟨-, -, e2', e3', -, -⟩ := SM.cells (show SM s l l2 none none _ _ _ _ from A0.out.T)
      simp only [ptrO] at e2' e3'
      clear e2 e3
      go_wp2_with fail
      go_ret
      exact ⟨_, _, _, rfl, A0.out.T, A0.out.st⟩
    obtain ⟨-, -, e2', e3', -, -⟩ := SM.cells (show SM s l l2 (some j) (some y) _ _ _ _ from A0.out.T)
    simp only [ptrO] at e2' e3'
    clear e2 e3
    have HS0 := Lib.hid (And.intro c1 e2')
    go_wp2_with fail
    clear c0 c1 c2 c3 c4 c5 e0 e1 e2' e3'
    go_region_held3 (fun W => W.cell? ⟨w.heap.size, 1, none⟩ = some (.int .i64 n) ∧ W.cell? ⟨s, 2, none⟩ = some (.pointer (some ⟨j, 0, none⟩)))
      (first | exact HS0.out | exact hS1)
      ((go_at_call 32; obtain ⟨G1, hG1⟩ := (A0.out.fr ((Fr.refl _ _).drew)).jat.1; (with_reducible refine (jread_any hG1 n).mono ?_); rintro e w1 ⟨sv, rfl, hl1, hr1, hf1, hn1'⟩; have hA1 := (A0.out.fr ((Fr.refl _ _).drew)).fr hf1; have hS1 := And.intro hA1.cells.2.1 hA1.jat.2.2.1))
    have A1 := Lib.hid hA1
    have HF1 := Lib.hid (((Fr.refl noBlock _).drew).trans' hf1)
    clear hA1 hS1
    have HR1 := Lib.hid hr1
    have HN1 := Lib.hid hn1'
    have hsv : sv.val = .slice sv.ao (jreadB d n).length sv.cap := by unfold SV.val; rw [hl1]
    rw [hsv]
    have Hsv := Lib.hid hsv
    clear hG1 hl1 hr1 hf1 hn1' hsv
    have HS1 := Lib.hid (And.intro A1.out.cells.2.1 A1.out.jat.2.2.2)
    go_wp2_with fail
    go_region_held3 (fun W => W.cell? ⟨w.heap.size, 1, none⟩ = some (.int .i64 n) ∧ W.cell? ⟨s, 3, none⟩ = some (.pointer (some ⟨y, 0, none⟩)))
      (first | exact HS1.out | exact hS2)
      ((go_at_call 62; obtain ⟨G2, hG2⟩ := (A1.out.fr ((Fr.refl _ _).drew)).jat.2.1; (with_reducible refine (rjread_any hG2 n).mono ?_); rintro e w2 ⟨sv2, rfl, hl2, hr2, hf2, -⟩; have hA2 := (A1.out.fr ((Fr.refl _ _).drew)).fr hf2; have hS2 := And.intro hA2.cells.2.1 hA2.jat.2.2.2))
    have HF2 := Lib.hid (((Fr.refl noBlock w1).drew).trans' hf2)
    have HR2 := Lib.hid (HR1.out.fr0 HF2.out)
    have k5 := conv_rd (RowAt.rd HR2.out) sv.cap
    have k6 := conv_rd (RowAt.rd hr2) sv2.cap
    have hsv2 : sv2.val = .slice sv2.ao (jreadB d n).length sv2.cap := by unfold SV.val; rw [hl2]
    rw [hsv2]
    clear hG2 hl2 hr2 hf2 hsv2 hA2 hS2
    have hx := Hxx.out (jreadE d n)
    go_wp2_with fail
    rw [← Hsv.out]
    refine (owned_box HR2.out 1).mono ?_
    rintro e w3 ⟨rfl, fo⟩
    have A3 := Lib.hid (A0.out.fr (HF1.out.trans' HF2.out |>.trans fo (fun k hk => .inr (HN1.out k hk))))
    rw [Hsv.out]
    clear fo k5 k6
    have HS3 := Lib.hid A3.out.jat.2.2
    have hx2 := Hxx.out (secs d)
    have hx3 := Hxx.out (d.size : Int)
    go_wp2_with fail
    go_region_held3 (fun W => W.cell? ⟨s, 2, none⟩ = some (.pointer (some ⟨j, 0, none⟩)) ∧ W.cell? ⟨s, 3, none⟩ = some (.pointer (some ⟨y, 0, none⟩)))
      (exact HS3.out)
      (first
        | (go_at_call 31; obtain ⟨G2, hG2⟩ := (A3.out.fr ((Fr.refl _ _).drew)).jat.1; (with_reducible refine (jsectors_any hG2).mono ?_); rintro e w4 ⟨rfl, rfl⟩)
        | (go_at_call 63; obtain ⟨G2, hG2⟩ := (A3.out.fr ((Fr.refl _ _).drew)).jat.2.1; (with_reducible refine (rjsectors_any hG2).mono ?_); rintro e w4 ⟨rfl, rfl⟩)
        | (go_at_call 33; obtain ⟨G2, hG2⟩ := (A3.out.fr ((Fr.refl _ _).drew)).jat.1; (with_reducible refine (jsize_any hG2).mono ?_); rintro e w4 ⟨rfl, rfl⟩)
        | (go_at_call 64; obtain ⟨G2, hG2⟩ := (A3.out.fr ((Fr.refl _ _).drew)).jat.2.1; (with_reducible refine (rjsize_any hG2).mono ?_); rintro e w4 ⟨rfl, rfl⟩))
    have A4 := Lib.hid (A3.out.fr ((Fr.refl _ _).drew))
    go_wp2_with fail
    go_ret
    exact ⟨_, _, _, rfl, A4.out.T, A4.out.st⟩
  by_cases o3 : op = 3
  · subst o3
    have A0 := Lib.hid S0.out
    clear S0 o0 o1 o2
    go_enter Try.func35, Try.ntmps35
    obtain ⟨c0, c1, c2, c3, c4, c5⟩ := A0.out.cells
    simp only at c0 c1 c2 c3 c4 c5
    obtain ⟨e0, e1, e2, e3⟩ := A0.out.scells
    have HS0 := Lib.hid (And.intro c1 (And.intro c2 e0))
    go_wp2_with fail
    clear c0 c1 c2 c3 c4 c5 e0 e1 e2 e3
    go_region_held3 (fun W => W.cell? ⟨w.heap.size, 1, none⟩ = some (.int .i64 n) ∧ W.cell? ⟨w.heap.size, 2, none⟩ = some (.int .i64 mm) ∧ W.cell? ⟨s, 0, none⟩ = some (.pointer (some ⟨l, 0, none⟩)))
      (first | exact HS0.out | exact hS1)
      ((go_at_call 18; obtain ⟨G1, hG1, hsub1, st1⟩ := (A0.out.fr ((Fr.refl _ _).drew)).left; (with_reducible refine (arm_any hG1 n mm hn1 hm0 hm1).mono ?_); rintro e w1 ⟨rfl, h1, s1⟩; obtain ⟨H1, hA1, -⟩ := st1 _ _ _ h1 s1; have hS1 := And.intro hA1.cells.2.1 (And.intro hA1.cells.2.2.1 hA1.scells.1)))
    have A1 := Lib.hid hA1
    clear hA1 hS1 hG1 hsub1 st1 h1 s1
    have HS1 := Lib.hid (And.intro A1.out.cells.2.1 (And.intro A1.out.cells.2.2.1 A1.out.scells.2.1))
    go_wp2_with fail
    go_region_held3 (fun W => W.cell? ⟨w.heap.size, 1, none⟩ = some (.int .i64 n) ∧ W.cell? ⟨w.heap.size, 2, none⟩ = some (.int .i64 mm) ∧ W.cell? ⟨s, 1, none⟩ = some (.pointer (some ⟨l2, 0, none⟩)))
      (first | exact HS1.out | exact hS2)
      ((go_at_call 48; obtain ⟨G2, hG2, hsub2, st2⟩ := (A1.out.fr ((Fr.refl _ _).drew)).right; (with_reducible refine (rarm_any hG2 n mm hn1 hm0 hm1).mono ?_); rintro e w2 ⟨rfl, h2, s2⟩; obtain ⟨H2, hA2, -⟩ := st2 _ _ _ h2 s2; have hS2 := And.intro hA2.cells.2.1 (And.intro hA2.cells.2.2.1 hA2.scells.2.1)))
    have A2 := Lib.hid hA2
    clear hG2 hsub2 st2 h2 s2 hA2 hS2
    go_wp2_with fail
    go_ret
    exact ⟨_, _, _, rfl, A2.out.T, A2.out.st⟩
  by_cases o4 : op = 4
  · subst o4
    have A0 := Lib.hid S0.out
    clear S0 o0 o1 o2 o3
    go_enter Try.func35, Try.ntmps35
    obtain ⟨c0, c1, c2, c3, c4, c5⟩ := A0.out.cells
    simp only at c0 c1 c2 c3 c4 c5
    obtain ⟨e0, e1, e2, e3⟩ := A0.out.scells
    have HS0 := Lib.hid (And.intro c4 e0)
    go_wp2_with fail
    clear c0 c1 c2 c3 c4 c5 e0 e1 e2 e3
    go_region_held3 (fun W => W.cell? ⟨w.heap.size, 4, none⟩ = some (.slice ko keep.length kc) ∧ W.cell? ⟨s, 0, none⟩ = some (.pointer (some ⟨l, 0, none⟩)))
      (first | exact HS0.out | exact hS1)
      ((go_at_call 19; obtain ⟨G3, hG3, hsub3, st3⟩ := (A0.out.fr ((Fr.refl _ _).drew)).left; (with_reducible refine (boot_any hG3 (Beside.of (((A0.out.fr ((Fr.refl _ _).drew)).bk).sub hsub3)) kc (by show keep.length ≤ _; omega)).mono ?_); rintro e w3 ⟨G3', rfl, h3, s3⟩; obtain ⟨H3, hA3, -⟩ := st3 (d.boot keep) _ _ h3 s3; have hS1 := And.intro hA3.cells.2.2.2.2.1 hA3.scells.1))
    have A3 := Lib.hid hA3
    clear hG3 hsub3 st3 h3 s3 hA3 hS1
    have HS1 := Lib.hid (And.intro A3.out.cells.2.2.2.2.1 A3.out.scells.2.1)
    go_wp2_with fail
    go_region_held3 (fun W => W.cell? ⟨w.heap.size, 4, none⟩ = some (.slice ko keep.length kc) ∧ W.cell? ⟨s, 1, none⟩ = some (.pointer (some ⟨l2, 0, none⟩)))
      (first | exact HS1.out | exact hS2)
      ((go_at_call 49; obtain ⟨G4, hG4, hsub4, st4⟩ := (A3.out.fr ((Fr.refl _ _).drew)).right; (with_reducible refine (rboot_any hG4 (Beside.of (((A3.out.fr ((Fr.refl _ _).drew)).bk).sub hsub4)) kc (by show keep.length ≤ _; omega)).mono ?_); rintro e w4 ⟨G4', rfl, h4, s4⟩; obtain ⟨H4, hA4, -⟩ := st4 (d.boot keep) _ _ h4 s4; have hS2 := And.intro hA4.cells.2.2.2.2.1 hA4.scells.2.1))
    have A4 := Lib.hid hA4
    clear hG4 hsub4 st4 h4 s4 hA4 hS2
    go_wp2_with fail
    refine (sopen_any A4.out.T).mono ?_
    rintro e wo ⟨mo, Ho, rfl, tO, sO⟩
    have AO := Lib.hid (A4.out.step tO sO)
    clear tO sO
    go_wp2_with fail
    go_ret
    exact ⟨_, _, _, rfl, AO.out.T, AO.out.st⟩
  by_cases o5 : op = 5
  · subst o5
    have A0 := Lib.hid S0.out
    clear S0 o0 o1 o2 o3 o4
    go_enter Try.func35, Try.ntmps35
    obtain ⟨c0, c1, c2, c3, c4, c5⟩ := A0.out.cells
    simp only at c0 c1 c2 c3 c4 c5
    obtain ⟨e0, e1, e2, e3⟩ := A0.out.scells
    go_wp2_with fail
    clear c0 c1 c2 c3 c4 c5 e0 e1 e2 e3
    refine (sopen_any A0.out.T).mono ?_
    rintro e wo ⟨mo, Ho, rfl, tO, sO⟩
    have AO := Lib.hid (A0.out.step tO sO)
    clear tO sO
    go_wp2_with fail
    go_ret
    exact ⟨_, _, _, rfl, AO.out.T, AO.out.st⟩
  by_cases o6 : op = 6
  · subst o6
    have A0 := Lib.hid S0.out
    clear S0 o0 o1 o2 o3 o4 o5
    go_enter Try.func35, Try.ntmps35
    obtain ⟨c0, c1, c2, c3, c4, c5⟩ := A0.out.cells
    simp only at c0 c1 c2 c3 c4 c5
    obtain ⟨e0, e1, e2, e3⟩ := A0.out.scells
    obtain ⟨z1, z2⟩ := A0.out.dsize
    have HS0 := Lib.hid (And.intro c5 (And.intro e1 z1))
    go_wp2_with fail
    clear c0 c1 c2 c3 c4 c5 e0 e1 e2 e3
    clear z1
    go_region_held3 (fun W => W.cell? ⟨w.heap.size, 5, none⟩ = some (.slice bo b.length bc) ∧ W.cell? ⟨s, 1, none⟩ = some (.pointer (some ⟨l2, 0, none⟩)) ∧ W.cell? ⟨l2, 2, none⟩ = some (.int .i64 d.size))
      (first | exact HS0.out | exact hS1)
      ((go_at_call 14; (with_reducible refine (fill_any (b := b) (A0.out.fr ((Fr.refl _ _).drew)).bb.rd bc (by show b.length ≤ _; omega) d.size z2).mono ?_); rintro e w1 ⟨sv, rfl, hl1, hr1, hf1, hn1'⟩; have hA1 := (A0.out.fr ((Fr.refl _ _).drew)).fr hf1; have hS1 := And.intro hA1.cells.2.2.2.2.2 (And.intro hA1.scells.2.1 hA1.dsize.1)))
    have A1 := Lib.hid hA1
    obtain ⟨bs, hbs⟩ : ∃ bs : Bs, fillB b d.size = bs := ⟨_, rfl⟩
    have hbl' : (fillB b d.size).length = d.size := fillB_len _ _
    rw [hbs] at hr1 hl1 hbl'
    obtain ⟨sa, sn, sc⟩ := sv
    simp only at hl1
    subst hl1
    have hbsz : bs.length ≤ 9223372036854775807 := by omega
    have B1 := Lib.hid (show Bes ByteR sa bs w1 H from Bes.new hr1 hn1' (by have := A0.out.lt; simpa using this))
    unfold SV.val
    simp only
    clear hA1 hS1 hr1 hf1 hn1' hbs
    have HS1 := Lib.hid (And.intro A1.out.cells.2.1 A1.out.scells.1)
    go_wp2_with fail
    go_region_held3 (fun W => W.cell? ⟨w.heap.size, 1, none⟩ = some (.int .i64 n) ∧ W.cell? ⟨s, 0, none⟩ = some (.pointer (some ⟨l, 0, none⟩)))
      (first | exact HS1.out | exact hS2)
      ((go_at_call 13; (with_reducible refine ((A1.out.fr ((Fr.refl _ _).drew)).write n (B1.out.fr ((Fr.refl _ _).drew)) sc hbsz hbl').mono ?_); rintro e w3 ⟨H3, rfl, hA3, hS3⟩; have hS2 := And.intro hA3.cells.2.1 hA3.scells.1))
    have A3 := Lib.hid hA3
    have B3 := Lib.hid ((B1.out.fr ((Fr.refl _ _).drew)).step hS3)
    clear hA3 hS3 hS2
    have HS3 := Lib.hid (And.intro A3.out.cells.2.1 A3.out.scells.2.1)
    go_wp2_with fail
    go_region_held3 (fun W => W.cell? ⟨w.heap.size, 1, none⟩ = some (.int .i64 n) ∧ W.cell? ⟨s, 1, none⟩ = some (.pointer (some ⟨l2, 0, none⟩)))
      (first | exact HS3.out | exact hS4)
      ((go_at_call 45; (with_reducible refine ((A3.out.fr ((Fr.refl _ _).drew)).rwrite n (B3.out.fr ((Fr.refl _ _).drew)) sc hbsz hbl').mono ?_); rintro e w5 ⟨H5, rfl, hA5, hS5⟩; have hS4 := And.intro hA5.cells.2.1 hA5.scells.2.1))
    have A5 := Lib.hid hA5
    clear hA5 hS5 hS4
    have hx := Hxx.out (d.writeE n d.size)
    go_wp2_with fail
    refine (sopen_any A5.out.T).mono ?_
    rintro e wo ⟨mo, Ho, rfl, tO, sO⟩
    have AO := Lib.hid (A5.out.step tO sO)
    clear tO sO
    go_wp2_with fail
    go_ret
    exact ⟨_, _, _, rfl, AO.out.T, AO.out.st⟩
  have S1 := Lib.hid S0.out
  clear S0
  obtain ⟨c0, -⟩ := S1.out.cells
  simp only at c0
  go_enter Try.func35, Try.ntmps35
  go_wp2_with fail
  go_ret
  exact ⟨_, _, _, rfl, S1.out.T, S1.out.st⟩
end Go.Proofs.Ytmcckppmciflmaa
