/-
  THE DOCUMENT'S JOURNAL while it runs its acts.
-/
import Derived.Test.YtmcckppmciflmaaRjAt
import Derived.Test.YtmcckppmciflmaaRdWrite
namespace Go.Proofs.Ytmcckppmciflmaa
open Go.RowKit

theorem write_size (d : DK) (n : Int) (b : Bs) : (d.write n b).size = d.size := by
  unfold DK.write
  have := d.cut_same.1
  split
  · rfl
  · split
    · rfl
    · split
      · rfl
      · split <;> exact this
theorem flush_size (d : DK) : d.flush.size = d.size := by
  unfold DK.flush
  have := d.cut_same.1
  split
  · rfl
  · exact this
theorem jstep_size (s : DK × Int) (a : JA) : (jstep s a).1.size = s.1.size := by
  unfold jstep
  split
  · cases a with
    | none => exact flush_size _
    | some p => exact write_size _ _ _
  · rfl
theorem jrun_size (l : List JA) : ∀ s : DK × Int, (jrun s l).1.size = s.1.size := by
  induction l with
  | nil => intro s; rfl
  | cons a l ih => intro s; rw [jrun_cons, ih, jstep_size]
/-- behind the acts A: the disk dd, the error x -/
structure RC (j L : Nat) (d : DK) (H0 : Nat → Prop) (w : World) (A : List JA) (wr : World) (dd : DK) (x : Int) (H : Nat → Prop) : Prop where
  at' : RJAt j L dd x wr H
  run : jrun (d, 0) A = (dd, x)
  st : Step H0 H w wr
/-- the cells that the acts read -/
def RCells (j L : Nat) (d : DK) (W : World) : Prop := W.cell? ⟨j, 0, none⟩ = some (.pointer (some ⟨L, 0, none⟩)) ∧ W.cell? ⟨L, 2, none⟩ = some (.int .i64 d.size)
namespace RC
variable {j L : Nat} {d dd : DK} {H0 H : Nat → Prop} {w wr w1 w2 : World} {A B : List JA} {x : Int}
theorem fr (R : RC j L d H0 w A wr dd x H) (f : Fr noBlock wr w1) : RC j L d H0 w A w1 dd x H := ⟨RJAt.ok.fr0 R.at' f, R.run, R.st.trans (Step.same f)⟩
theorem size (R : RC j L d H0 w A wr dd x H) : dd.size = d.size := by
  have := jrun_size A (d, 0)
  rw [R.run] at this
  exact this
theorem bad (R : RC j L d H0 w A wr dd x H) (hx : x ≠ 0) (B : List JA) : RC j L d H0 w (A ++ B) wr dd x H := ⟨R.at', by rw [jrun_append, R.run, jrun_bad hx], R.st⟩
theorem next (R : RC j L d H0 w A wr dd 0 H) (a : JA) {d' : DK} {x' : Int} (hj : jstep (dd, 0) a = (d', x')) {H' : Nat → Prop} (h : RJAt j L d' x' w1 H') (hs : Step H H' wr w1) : RC j L d H0 w (A ++ [a]) w1 d' x' H' :=
  ⟨h, by rw [jrun_snoc, R.run, hj], R.st.trans hs⟩
theorem flush (R : RC j L d H0 w A wr dd 0 H) {H' : Nat → Prop} (h : RJAt j L dd.flush dd.flushE w1 H') (hs : Step H H' wr w1) : RC j L d H0 w (A ++ [none]) w1 dd.flush dd.flushE H' := R.next none rfl h hs
theorem write (R : RC j L d H0 w A wr dd 0 H) {n : Int} {b : Bs} {H' : Nat → Prop} (h : RJAt j L (dd.write n b) (dd.writeE n b.length) w1 H') (hs : Step H H' wr w1) : RC j L d H0 w (A ++ [some (n, b)]) w1 (dd.write n b) (dd.writeE n b.length) H' := R.next (some (n, b)) rfl h hs
theorem cells (R : RC j L d H0 w A wr dd x H) : RCells j L d wr := by
  obtain ⟨c0, -, -, -⟩ := R.at'.cells
  obtain ⟨sa, sc, -, c1, -, -⟩ := R.at'.dcells
  exact ⟨c0, by rw [← R.size]; exact c1⟩
theorem badc (R : RC j L d H0 w A wr dd x H) : wr.cell? ⟨j, 1, none⟩ = some (.int .i64 x) := R.at'.cells.2.1
theorem start (h : RJAt j L d 0 w H) : RC j L d H w [] w d 0 H := ⟨h, rfl, Step.refl _ _⟩
/-- the journal of a run, whatever the disk -/
theorem of_at (_R : RC j L d H0 w A wr dd x H) {d' : DK} {x' : Int} {H' : Nat → Prop} (h : RJAt j L d' x' w1 H') (hd : d'.size = d.size) : RCells j L d w1 := by
  obtain ⟨c0, -, -, -⟩ := h.cells
  obtain ⟨sa, sc, -, c1, -, -⟩ := h.dcells
  exact ⟨c0, by rw [← hd]; exact c1⟩
end RC

theorem rwrite_jat {j L : Nat} {d : DK} {bad : Int} {w : World} {H : Nat → Prop} (h : RJAt j L d bad w H) (n : Int) {ao : Option Addr} {b : Bs} (hb : Bes ByteR ao b w H) (cap : Nat) (hbn : b.length ≤ 9223372036854775807) :
    Calls Try.prog 45 #[.pointer (some ⟨L, 0, none⟩), .int .i64 n, .slice ao b.length cap] w fun e w' => ∃ H', e = .returned (.int .i64 (d.writeE n b.length)) ∧ RJAt j L (d.write n b) bad w' H' ∧ Step H H' w w' := by
  obtain ⟨G, hG, hsub, st⟩ := h.disk
  refine (rwrite_any hG n hb.rd (fun h0 a e hk => (hb.ap h0 a e).1 (hsub _ hk)) cap hbn).mono ?_
  rintro e w' ⟨G', rfl, h1, s1⟩
  obtain ⟨H', h2, s2⟩ := st _ _ _ h1 s1
  exact ⟨H', rfl, h2, s2⟩
theorem rflush_jat {j L : Nat} {d : DK} {bad : Int} {w : World} {H : Nat → Prop} (h : RJAt j L d bad w H) : Calls Try.prog 46 #[.pointer (some ⟨L, 0, none⟩)] w fun e w' => ∃ H', e = .returned (.int .i64 d.flushE) ∧ RJAt j L d.flush bad w' H' ∧ Step H H' w w' := by
  obtain ⟨G, hG, -, st⟩ := h.disk
  refine (rflush_any hG).mono ?_
  rintro e w' ⟨G', rfl, h1, s1⟩
  obtain ⟨H', h2, s2⟩ := st _ _ _ h1 s1
  exact ⟨H', rfl, h2, s2⟩
end Go.Proofs.Ytmcckppmciflmaa
