/-
  WRITES WHOSE BYTES ARE LENT: a row of one's own, each one's bytes in a block of its own.
-/
import Derived.Test.YtmcckppmciflmaaRjOpen
namespace Go.Proofs.Ytmcckppmciflmaa
open Go.RowKit

def ptrO : Option Nat → Value
  | none => .pointer none
  | some j => .pointer (some ⟨j, 0, none⟩)
def Sobj (l l2 : Nat) (p q : Option Nat) : Obj := .cells #[.pointer (some ⟨l, 0, none⟩), .pointer (some ⟨l2, 0, none⟩), ptrO p, ptrO q] 80 (0, 0)
def SM (s l l2 : Nat) (p q : Option Nat) (A B : Thing) : Thing := Two (Two A B) (BoxT s (Sobj l l2 p q))
/-- a journal on each side, with the same error, or none -/
abbrev JSt := Option (Nat × Nat × Int)
def JSt.p (m : JSt) : Option Nat := m.map (fun x => x.1)
def JSt.q (m : JSt) : Option Nat := m.map (fun x => x.2.1)
def PJ (m : JSt) (l : Nat) (d : DK) : Thing := match m with | none => DiskAt l d | some (j, _, bad) => JAt j l d bad
def PR (m : JSt) (l : Nat) (d : DK) : Thing := match m with | none => RDiskAt l d | some (_, y, bad) => RJAt y l d bad
theorem PJ.ok {m : JSt} {l : Nat} {d : DK} : (PJ m l d).Ok := by
  rcases m with _ | ⟨j, y, bad⟩
  · exact DiskAt.ok
  · exact JAt.ok
theorem PR.ok {m : JSt} {l : Nat} {d : DK} : (PR m l d).Ok := by
  rcases m with _ | ⟨j, y, bad⟩
  · exact RDiskAt.ok
  · exact RJAt.ok
theorem PJ.disk {m : JSt} {l : Nat} {d : DK} {w : World} {H : Nat → Prop} (h : PJ m l d w H) : ∃ G, DiskAt l d w G ∧ (∀ k, G k → H k) ∧ ∀ (d' : DK) (w' : World) (G' : Nat → Prop), DiskAt l d' w' G' → Step G G' w w' → ∃ H', PJ m l d' w' H' ∧ Step H H' w w' := by
  rcases m with _ | ⟨j, y, bad⟩
  · exact ⟨H, h, fun _ x => x, fun d' w' G' h' s => ⟨G', h', s⟩⟩
  · exact JAt.disk h
theorem PR.disk {m : JSt} {l : Nat} {d : DK} {w : World} {H : Nat → Prop} (h : PR m l d w H) : ∃ G, RDiskAt l d w G ∧ (∀ k, G k → H k) ∧ ∀ (d' : DK) (w' : World) (G' : Nat → Prop), RDiskAt l d' w' G' → Step G G' w w' → ∃ H', PR m l d' w' H' ∧ Step H H' w w' := by
  rcases m with _ | ⟨j, y, bad⟩
  · exact ⟨H, h, fun _ x => x, fun d' w' G' h' s => ⟨G', h', s⟩⟩
  · exact RJAt.disk h
def SideT (s l l2 : Nat) (d d2 : DK) (m : JSt) : Thing := SM s l l2 m.p m.q (PJ m l d) (PR m l2 d2)
theorem SideT.ok {s l l2 : Nat} {d d2 : DK} {m : JSt} : (SideT s l l2 d d2 m).Ok := Two.ok (Two.ok PJ.ok PR.ok) BoxT.ok
namespace SM
variable {s l l2 : Nat} {p q : Option Nat} {A B : Thing} {w : World} {H : Nat → Prop}
theorem cells (h : SM s l l2 p q A B w H) : w.cell? ⟨s, 0, none⟩ = some (.pointer (some ⟨l, 0, none⟩)) ∧ w.cell? ⟨s, 1, none⟩ = some (.pointer (some ⟨l2, 0, none⟩)) ∧ w.cell? ⟨s, 2, none⟩ = some (ptrO p) ∧ w.cell? ⟨s, 3, none⟩ = some (ptrO q) ∧ w.frozen? ⟨s, 2, none⟩ = false ∧ w.frozen? ⟨s, 3, none⟩ = false := by
  obtain ⟨F, G, h1, ⟨h2, h2'⟩, h3, h4⟩ := h
  exact ⟨by simpa using cell_of h2 0, by simpa using cell_of h2 1, by simpa using cell_of h2 2, by simpa using cell_of h2 3, free_of h2 2, free_of h2 3⟩
theorem left (b : B.Ok) (h : SM s l l2 p q A B w H) : ∃ G, A w G ∧ (∀ k, G k → H k) ∧ ∀ (A' : Thing) (w' : World) (G' : Nat → Prop), A' w' G' → Step G G' w w' → ∃ H', SM s l l2 p q A' B w' H' ∧ Step H H' w w' := by
  obtain ⟨F, G, ⟨F1, G1, a1, a2, a3, a4⟩, h2, h3, h4⟩ := h
  refine ⟨F1, a1, fun k hk => (h4 k).2 (.inl ((a4 k).2 (.inl hk))), fun A' w' G' h' hs => ?_⟩
  obtain ⟨t, st⟩ := Two.left b a2 a3 a4 h' hs
  exact ⟨_, Two.left BoxT.ok h2 h3 h4 t st⟩
theorem right (a : A.Ok) (h : SM s l l2 p q A B w H) : ∃ G, B w G ∧ (∀ k, G k → H k) ∧ ∀ (B' : Thing) (w' : World) (G' : Nat → Prop), B' w' G' → Step G G' w w' → ∃ H', SM s l l2 p q A B' w' H' ∧ Step H H' w w' := by
  obtain ⟨F, G, ⟨F1, G1, a1, a2, a3, a4⟩, h2, h3, h4⟩ := h
  refine ⟨G1, a2, fun k hk => (h4 k).2 (.inl ((a4 k).2 (.inr hk))), fun B' w' G' h' hs => ?_⟩
  obtain ⟨t, st⟩ := Two.right a a1 a3 a4 h' hs
  exact ⟨_, Two.left BoxT.ok h2 h3 h4 t st⟩
theorem set2 (a : A.Ok) (b : B.Ok) (h : SM s l l2 p q A B w H) (p' : Option Nat) : SM s l l2 p' q A B (w.setCell ⟨s, 2, none⟩ (ptrO p')) H ∧ Step H H w (w.setCell ⟨s, 2, none⟩ (ptrO p')) := by
  obtain ⟨F, G, h1, ⟨h2, h2'⟩, h3, h4⟩ := h
  have hf : Fr (fun k => k = s) w (w.setCell ⟨s, 2, none⟩ (ptrO p')) := (Fr.refl (fun k => k = s) w).setCell (p := ⟨s, 2, none⟩) (.inl rfl) _
  have hj : G s := (h2' s).2 rfl
  refine ⟨⟨F, G, (Two.ok a b).fr h1 hf (fun k hk e => h3 k hk (by rw [e]; exact hj)), ⟨?_, h2'⟩, h3, h4⟩, ⟨hf.mono (fun k hk => by subst hk; exact (h4 _).2 (.inr hj)), fun _ hk => .inl hk⟩⟩
  have := heap_set_eq (i := 2) (u := ptrO p') h2
  simpa [Sobj] using this
theorem set3 (a : A.Ok) (b : B.Ok) (h : SM s l l2 p q A B w H) (q' : Option Nat) : SM s l l2 p q' A B (w.setCell ⟨s, 3, none⟩ (ptrO q')) H ∧ Step H H w (w.setCell ⟨s, 3, none⟩ (ptrO q')) := by
  obtain ⟨F, G, h1, ⟨h2, h2'⟩, h3, h4⟩ := h
  have hf : Fr (fun k => k = s) w (w.setCell ⟨s, 3, none⟩ (ptrO q')) := (Fr.refl (fun k => k = s) w).setCell (p := ⟨s, 3, none⟩) (.inl rfl) _
  have hj : G s := (h2' s).2 rfl
  refine ⟨⟨F, G, (Two.ok a b).fr h1 hf (fun k hk e => h3 k hk (by rw [e]; exact hj)), ⟨?_, h2'⟩, h3, h4⟩, ⟨hf.mono (fun k hk => by subst hk; exact (h4 _).2 (.inr hj)), fun _ hk => .inl hk⟩⟩
  have := heap_set_eq (i := 3) (u := ptrO q') h2
  simpa [Sobj] using this
theorem set (a : A.Ok) (b : B.Ok) (h : SM s l l2 p q A B w H) (p' q' : Option Nat) : SM s l l2 p' q' A B ((w.setCell ⟨s, 2, none⟩ (ptrO p')).setCell ⟨s, 3, none⟩ (ptrO q')) H ∧ Step H H w ((w.setCell ⟨s, 2, none⟩ (ptrO p')).setCell ⟨s, 3, none⟩ (ptrO q')) := by
  obtain ⟨h1, s1⟩ := h.set2 a b p'
  obtain ⟨h2, s2⟩ := h1.set3 a b q'
  exact ⟨h2, s1.trans s2⟩
end SM
namespace SideT
variable {s l l2 : Nat} {d d2 : DK} {m : JSt} {w w0 : World} {H H0 : Nat → Prop}
theorem left (h : SideT s l l2 d d2 m w H) : ∃ G, DiskAt l d w G ∧ (∀ k, G k → H k) ∧ ∀ (d' : DK) (w' : World) (G' : Nat → Prop), DiskAt l d' w' G' → Step G G' w w' → ∃ H', SideT s l l2 d' d2 m w' H' ∧ Step H H' w w' := by
  obtain ⟨G, h1, h2, h3⟩ := SM.left PR.ok h
  obtain ⟨K, k1, k2, k3⟩ := h1.disk
  refine ⟨K, k1, fun k hk => h2 k (k2 k hk), fun d' w' G' h' hs => ?_⟩
  obtain ⟨H1, t1, s1⟩ := k3 d' w' G' h' hs
  exact h3 _ _ _ t1 s1
theorem right (h : SideT s l l2 d d2 m w H) : ∃ G, RDiskAt l2 d2 w G ∧ (∀ k, G k → H k) ∧ ∀ (d' : DK) (w' : World) (G' : Nat → Prop), RDiskAt l2 d' w' G' → Step G G' w w' → ∃ H', SideT s l l2 d d' m w' H' ∧ Step H H' w w' := by
  obtain ⟨G, h1, h2, h3⟩ := SM.right PJ.ok h
  obtain ⟨K, k1, k2, k3⟩ := h1.disk
  refine ⟨K, k1, fun k hk => h2 k (k2 k hk), fun d' w' G' h' hs => ?_⟩
  obtain ⟨H1, t1, s1⟩ := k3 d' w' G' h' hs
  exact h3 _ _ _ t1 s1
/-- the journals forgotten -/
theorem bare (h : SideT s l l2 d d2 m w H) : ∃ H', SM s l l2 m.p m.q (DiskAt l d) (RDiskAt l2 d2) w H' ∧ Step H H' w w := by
  obtain ⟨G, h1, -, h3⟩ := SM.left PR.ok h
  obtain ⟨K, k1, k2, -⟩ := h1.disk
  obtain ⟨H1, t1, s1⟩ := h3 (DiskAt l d) w K k1 ((Step.refl G w).sub k2)
  obtain ⟨G', h1', -, h3'⟩ := SM.right DiskAt.ok t1
  obtain ⟨K', k1', k2', -⟩ := h1'.disk
  obtain ⟨H2, t2, s2⟩ := h3' (RDiskAt l2 d2) w K' k1' ((Step.refl G' w).sub k2')
  exact ⟨H2, t2, s1.trans s2⟩
end SideT
def SOpenP (s l l2 : Nat) (d : DK) (H : Nat → Prop) (w : World) (e : Ending) (w' : World) : Prop := ∃ m H', e = .returned (.bool true) ∧ SideT s l l2 (openR d).1 (openR d).1 m w' H' ∧ Step H H' w w'
set_option maxRecDepth 100000 in
set_option maxHeartbeats 1600000 in
theorem sopen_any {s l l2 : Nat} {d : DK} {m : JSt} {w : World} {H : Nat → Prop} (h : SideT s l l2 d d m w H) : Calls Try.prog 34 #[.pointer (some ⟨s, 0, none⟩)] w (SOpenP s l l2 d H w) := by
  obtain ⟨H1, h1, s1⟩ := h.bare
  generalize m.p = p0 at *
  generalize m.q = q0 at *
  have A0 := Lib.hid (And.intro h1 s1)
  have Hxx := Lib.hid (fun x : Int => (by simp : (x == x) = true))
  clear h h1 s1
  go_enter Try.func34, Try.ntmps34
  obtain ⟨c0, c1, -⟩ := A0.out.1.cells
  go_wp2_with fail
  obtain ⟨G, hG, -, st⟩ := SM.left RDiskAt.ok A0.out.1
  refine (jopen_any hG).mono ?_
  rintro e w1 h1
  obtain ⟨hO, hOO⟩ : ∃ x, (openR d).2 = x := ⟨_, rfl⟩
  by_cases hx : hO = 0
  · rcases h1 with ⟨hx1, j, J, rfl, hJ, sJ⟩ | ⟨hx1, _⟩
    case inr => exact absurd (hOO.trans hx) hx1
    obtain ⟨H2, h2, s2⟩ := st _ _ _ hJ sJ
    have A1 := Lib.hid (And.intro h2 (A0.out.2.trans s2))
    clear hG st hJ sJ h2 s2 c0 c1 A0
    obtain ⟨c0, c1, -⟩ := A1.out.1.cells
    go_wp2_with fail
    obtain ⟨G, hG, -, st⟩ := SM.right JAt.ok A1.out.1
    refine (ropen_any hG).mono ?_
    rintro e w2 h1
    rcases h1 with ⟨hx2, y, J2, rfl, hJ, sJ⟩ | ⟨hx2, _⟩
    case inr => exact absurd (hOO.trans hx) hx2
    obtain ⟨H3, h2, s2⟩ := st _ _ _ hJ sJ
    have A2 := Lib.hid (And.intro h2 (A1.out.2.trans s2))
    clear hG st hJ sJ h2 s2 c0 c1 A1 hx1 hx2 hx hOO
    obtain ⟨c0, c1, c2, c3, z2, z3⟩ := A2.out.1.cells
    have AS := Lib.hid (A2.out.1.set JAt.ok RJAt.ok (some j) (some y))
    unfold ptrO at AS c2 c3
    go_wp2_with fail
    go_ret
    exact ⟨some (j, y, 0), _, rfl, AS.out.1, A2.out.2.trans AS.out.2⟩
  · rcases h1 with ⟨hx1, _⟩ | ⟨hx1, J, rfl, hJ, sJ⟩
    case inl => exact absurd (hOO.symm.trans hx1) hx
    obtain ⟨H2, h2, s2⟩ := st _ _ _ hJ sJ
    have A1 := Lib.hid (And.intro h2 (A0.out.2.trans s2))
    clear hG st hJ sJ h2 s2 c0 c1 A0
    obtain ⟨c0, c1, -⟩ := A1.out.1.cells
    go_wp2_with fail
    obtain ⟨G, hG, -, st⟩ := SM.right DiskAt.ok A1.out.1
    refine (ropen_any hG).mono ?_
    rintro e w2 h1
    rcases h1 with ⟨hx2, _⟩ | ⟨hx2, J2, rfl, hJ, sJ⟩
    case inl => exact absurd (hOO.symm.trans hx2) hx
    obtain ⟨H3, h2, s2⟩ := st _ _ _ hJ sJ
    have A2 := Lib.hid (And.intro h2 (A1.out.2.trans s2))
    rw [hOO]
    have hxx := Hxx.out hO
    clear hG st hJ sJ h2 s2 c0 c1 A1 hx1 hx2 hx hOO
    obtain ⟨c0, c1, c2, c3, z2, z3⟩ := A2.out.1.cells
    have AS := Lib.hid (A2.out.1.set DiskAt.ok RDiskAt.ok none none)
    unfold ptrO at AS c2 c3
    go_wp2_with fail
    go_ret
    exact ⟨none, _, rfl, AS.out.1, A2.out.2.trans AS.out.2⟩
end Go.Proofs.Ytmcckppmciflmaa
namespace Go.Proofs.Ytmcckppmciflmaa
open Go.RowKit

structure LentW (w0 w : World) (lo : Option Addr) (n lc : Nat) (ws : List (Int × SV)) (l : List JW) : Prop where
  o : OwnW w0 w lo n lc ws l
  lent : ∀ (i : Nat) (p : Int × SV) (q : JW), ws[i]? = some p → l[i]? = some q → ∃ g, p.2 = ⟨some ⟨g, 0, none⟩, q.2.length, q.2.length + 1⟩ ∧ LentAt w g q.2
  diff : ∀ (i j : Nat) (p p' : Int × SV), ws[i]? = some p → ws[j]? = some p' → i ≠ j → p.2.ao ≠ p'.2.ao
/-- the blocks of lent rows -/
def GS (us : List (Int × SV)) : Nat → Prop := fun k => ∃ (i : Nat) (p : Int × SV), us[i]? = some p ∧ p.2.val.ownBlock = some k
namespace LentW
variable {w0 w w' w1 w2 : World} {lo lo2 : Option Addr} {n lc n2 lc2 : Nat} {ws : List (Int × SV)} {l : List JW}
theorem nil (hf : Fr noBlock w0 w) : LentW w0 w none 0 0 [] [] := ⟨OwnW.nil hf, fun i p q h => by simp at h, fun i j p p' h => by simp at h⟩
theorem on (h : LentW w0 w lo n lc ws l) (hf : Fr noBlock w w') : LentW w0 w' lo n lc ws l :=
  ⟨h.o.«to» hf, fun i p q a b => by obtain ⟨g, e, hl⟩ := h.lent i p q a b; exact ⟨g, e, hl.fr0 hf⟩, h.diff⟩
theorem more (h : LentW w0 w lo n lc ws l) (hf : Fr noBlock w w1) {x : Int} {b : Bs} {g : Nat} (hL : LentAt w1 g b) (hg : w.heap.size ≤ g)
    (ho : w2.ownsRow w0.heap.size 69 DirtR.k (.slice lo2 n2 lc2) n2 (DirtR.flat (ws ++ [(x, (⟨some ⟨g, 0, none⟩, b.length, b.length + 1⟩ : SV))]))) (hn2 : n2 = n + 1) (hgr : w1.grownBy w2 (Value.slice lo n lc).ownBlock) :
    LentW w0 w2 lo2 n2 lc2 (ws ++ [(x, (⟨some ⟨g, 0, none⟩, b.length, b.length + 1⟩ : SV))]) (l ++ [(x, b)]) := by
  have hrow : RowAt 69 DirtR w1 (.slice lo n lc) ws := h.o.row.fr0 hf
  have hfg : Fr (fun k => (Value.slice lo n lc).ownBlock = some k) w1 w2 := (Fr.refl _ w1).grown hgr (fun k hk => .inl hk)
  have keep : ∀ {g : Nat} {b : Bs}, LentAt w1 g b → LentAt w2 g b := fun hb => hb.fr hfg (fun e => by
    obtain ⟨c1, e1⟩ := hb.row.kind rfl
    obtain ⟨c2, e2⟩ := hrow.kind e
    rw [e1] at e2
    simp at e2)
  have hl := h.o.len
  have hl2 := h.o.len2
  refine ⟨h.o.more hf rfl rfl hL.row (fun k hk => by cases hk; exact Nat.le_trans h.o.fr.size hg) ho hn2 hgr, fun i p q a b' => ?_, fun i j p p' a b' hij => ?_⟩
  · by_cases hi : i < ws.length
    · rw [List.getElem?_append_left hi] at a
      rw [List.getElem?_append_left (by omega)] at b'
      obtain ⟨g', e1, e2⟩ := h.lent i p q a b'
      exact ⟨g', e1, keep (e2.fr0 hf)⟩
    · have hlt := (List.getElem?_eq_some_iff.1 a).1
      simp at hlt
      have hi' : i = ws.length := by omega
      subst hi'
      rw [List.getElem?_append_right (Nat.le_refl _)] at a
      rw [List.getElem?_append_right (by omega), hl, ← hl2] at b'
      simp at a b'
      subst a b'
      exact ⟨g, rfl, keep hL⟩
  · have new : ∀ (i : Nat) (p : Int × SV), ws[i]? = some p → p.2.ao ≠ some ⟨g, 0, none⟩ := fun i p a e => by
      have hi := (List.getElem?_eq_some_iff.1 a).1
      obtain ⟨g', e1, e2⟩ := h.lent i p (l[i]'(by omega)) a (List.getElem?_eq_getElem (by omega))
      rw [e1] at e
      simp at e
      have := e2.lt
      omega
    have hlti := (List.getElem?_eq_some_iff.1 a).1
    have hltj := (List.getElem?_eq_some_iff.1 b').1
    simp at hlti hltj
    by_cases hi : i < ws.length
    · rw [List.getElem?_append_left hi] at a
      by_cases hj : j < ws.length
      · rw [List.getElem?_append_left hj] at b'
        exact h.diff i j p p' a b' hij
      · have hj' : j = ws.length := by omega
        subst hj'
        rw [List.getElem?_append_right (Nat.le_refl _)] at b'
        simp at b'
        subst b'
        exact new i p a
    · have hi' : i = ws.length := by omega
      subst hi'
      have hj : j < ws.length := by omega
      rw [List.getElem?_append_left hj] at b'
      rw [List.getElem?_append_right (Nat.le_refl _)] at a
      simp at a
      subst a
      exact fun e => new j p' b' e.symm
theorem gs_new (h : LentW w0 w lo n lc ws l) : ∀ k, GS ws k → w0.heap.size ≤ k := by
  rintro k ⟨i, p, a, hk⟩
  have hi := (List.getElem?_eq_some_iff.1 a).1
  have h1 := h.o.len
  have h2 := h.o.len2
  exact (h.o.each i p (l[i]'(by omega)) a (List.getElem?_eq_getElem (by omega))).2.2.2 k hk
theorem gs_lt (h : LentW w0 w lo n lc ws l) : ∀ k, GS ws k → k < w.heap.size := by
  rintro k ⟨i, p, a, hk⟩
  have hi := (List.getElem?_eq_some_iff.1 a).1
  have h1 := h.o.len
  have h2 := h.o.len2
  exact (h.o.each i p (l[i]'(by omega)) a (List.getElem?_eq_getElem (by omega))).2.2.1.lt k hk
/-- the row that leads to them lies elsewhere -/
theorem gs_row (h : LentW w0 w lo n lc ws l) {k : Nat} (hk : (Value.slice lo n lc).ownBlock = some k) : ¬ GS ws k := by
  rintro ⟨i, p, a, hp⟩
  have hi := (List.getElem?_eq_some_iff.1 a).1
  have h1 := h.o.len
  have h2 := h.o.len2
  obtain ⟨c1, e1⟩ := (h.o.each i p (l[i]'(by omega)) a (List.getElem?_eq_getElem (by omega))).2.2.1.kind hp
  obtain ⟨c2, e2⟩ := h.o.row.kind hk
  rw [e1] at e2
  simp at e2
end LentW
/-- the lent rows from the i-th on, while those ahead are given away -/
def LeftW (w : World) (ws : List (Int × SV)) (l : List JW) (i : Nat) : Prop := ∀ (k : Nat) (p : Int × SV) (q : JW), i ≤ k → ws[k]? = some p → l[k]? = some q → ∃ g, p.2 = ⟨some ⟨g, 0, none⟩, q.2.length, q.2.length + 1⟩ ∧ LentAt w g q.2
theorem LentW.left {w0 w w' : World} {lo : Option Addr} {n lc : Nat} {ws : List (Int × SV)} {l : List JW} (h : LentW w0 w lo n lc ws l) {S : Nat → Prop} (hf : Fr S w w') (hS : ∀ k, S k → k < w0.heap.size) : LeftW w' ws l 0 := by
  intro k p q _ a b
  obtain ⟨g, e, hl⟩ := h.lent k p q a b
  refine ⟨g, e, hl.fr hf (fun hs => ?_)⟩
  have := hS g hs
  have := h.gs_new g ⟨k, p, a, by rw [e]; rfl⟩
  omega
theorem LeftW.next {w w' : World} {ws : List (Int × SV)} {l : List JW} {i : Nat} (h : LeftW w ws l i) (hd : ∀ (i j : Nat) (p p' : Int × SV), ws[i]? = some p → ws[j]? = some p' → i ≠ j → p.2.ao ≠ p'.2.ao) {p : Int × SV} (hp : ws[i]? = some p) {g : Nat} (hg : p.2.ao = some ⟨g, 0, none⟩) (hf : Fr (fun k => g = k) w w') : LeftW w' ws l (i + 1) := by
  intro k p' q hk a b
  obtain ⟨g', e, hl⟩ := h k p' q (by omega) a b
  refine ⟨g', e, hl.fr hf (fun e' => ?_)⟩
  subst e'
  exact hd i k p p' hp a (by omega) (by rw [hg, e])
end Go.Proofs.Ytmcckppmciflmaa
