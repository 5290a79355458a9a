/-
  A JOURNAL IN MEMORY (the program's): its block, its disk. Acts to come. THE WALKS of Sectors, Size, is, Read, write, steps.
-/
import Derived.Deep.RegionHeld3
import Derived.Shelf.Abstract
import Derived.Test.YtmcckppmciflmaaJnP
import Derived.Test.YtmcckppmciflmaaRdTells
namespace Go.Proofs.Ytmcckppmciflmaa
open Go.RowKit

def Jobj (l : Nat) (bad : Int) : Obj := .cells #[.pointer (some ⟨l, 0, none⟩), .int .i64 bad] 95 (0, 0)
def JAt (j l : Nat) (d : DK) (bad : Int) : Thing := Two (DiskAt l d) (BoxT j (Jobj l bad))
theorem JAt.ok {j l : Nat} {d : DK} {bad : Int} : (JAt j l d bad).Ok := Two.ok DiskAt.ok BoxT.ok
theorem JAt.cells {j l : Nat} {d : DK} {bad : Int} {w : World} {H : Nat → Prop} (h : JAt j l d bad w H) : w.cell? ⟨j, 0, none⟩ = some (.pointer (some ⟨l, 0, none⟩)) ∧ w.cell? ⟨j, 1, none⟩ = some (.int .i64 bad) ∧ w.frozen? ⟨j, 1, none⟩ = false ∧ j < w.heap.size := by
  obtain ⟨F, G, h1, ⟨h2, h2'⟩, h3, h4⟩ := h
  exact ⟨by simpa using cell_of h2 0, by simpa using cell_of h2 1, free_of h2 1, heap_lt h2⟩
theorem JAt.disk {j l : Nat} {d : DK} {bad : Int} {w : World} {H : Nat → Prop} (h : JAt j l d bad w H) : ∃ G, DiskAt l d w G ∧ (∀ k, G k → H k) ∧ ∀ (d' : DK) (w' : World) (G' : Nat → Prop), DiskAt l d' w' G' → Step G G' w w' → ∃ H', JAt j l d' bad w' H' ∧ Step H H' w w' := by
  obtain ⟨F, G, h1, h2, h3, h4⟩ := h
  exact ⟨F, h1, fun k hk => (h4 k).2 (.inl hk), fun d' w' G' h' hs => ⟨_, Two.left BoxT.ok h2 h3 h4 h' hs⟩⟩
theorem JAt.good {j l : Nat} {d : DK} {bad : Int} {w : World} {H : Nat → Prop} (h : JAt j l d bad w H) : d.Good := by obtain ⟨F, G, h1, _⟩ := h; exact h1.good
/-- the error is another one -/
theorem JAt.setBad {j l : Nat} {d : DK} {bad : Int} {w : World} {H : Nat → Prop} (h : JAt j l d bad w H) (x : Int) : JAt j l d x (w.setCell ⟨j, 1, none⟩ (.int .i64 x)) H ∧ Step H H w (w.setCell ⟨j, 1, none⟩ (.int .i64 x)) := by
  obtain ⟨F, G, h1, ⟨h2, h2'⟩, h3, h4⟩ := h
  have hf : Fr (fun k => k = j) w (w.setCell ⟨j, 1, none⟩ (.int .i64 x)) := (Fr.refl (fun k => k = j) w).setCell (p := ⟨j, 1, none⟩) (.inl rfl) _
  have hj : G j := (h2' j).2 rfl
  refine ⟨⟨F, G, DiskAt.ok.fr h1 hf (fun k hk e => h3 k hk (by rw [e]; exact hj)), ⟨?_, h2'⟩, h3, h4⟩, ⟨hf.mono (fun k hk => by subst hk; exact (h4 _).2 (.inr hj)), fun _ hk => .inl hk⟩⟩
  have := heap_set_eq (i := 1) (u := .int .i64 x) h2
  simpa [Jobj] using this

def jreadB (d : DK) (n : Int) : Bs := if isJ d n then d.readB (9 + n) else []
def jreadE (d : DK) (n : Int) : Int := if isJ d n then d.readE (9 + n) else if d.off then 30 else 31
theorem read_neg (d : DK) : d.readB (-1) = [] ∧ d.readE (-1) = if d.off then 30 else 31 := by
  have : d.isS (-1) = false := by simp [DK.isS]
  unfold DK.readB DK.readE
  rw [this]
  cases d.off <;> exact ⟨rfl, rfl⟩

set_option maxHeartbeats 400000 in
theorem jsectors_any {j l : Nat} {d : DK} {bad : Int} {w : World} {H : Nat → Prop} (h : JAt j l d bad w H) : Calls Try.prog 31 #[.pointer (some ⟨j, 0, none⟩)] w fun e w' => e = .returned (.int .i64 (secs d)) ∧ w = w' := by
  obtain ⟨c0, -, -, -⟩ := h.cells
  have hn := h.good.n1
  have HH := Lib.hid h
  clear h
  go_enter Try.func31, Try.ntmps31
  go_wp2_with fail
  obtain ⟨G, hG, -, -⟩ := HH.out.disk
  refine (sectors_any hG).mono ?_
  rintro e w' ⟨rfl, rfl⟩
  go_wp2_with fail
  go_ret
  exact ⟨rfl, rfl⟩
set_option maxHeartbeats 400000 in
theorem jsize_any {j l : Nat} {d : DK} {bad : Int} {w : World} {H : Nat → Prop} (h : JAt j l d bad w H) : Calls Try.prog 33 #[.pointer (some ⟨j, 0, none⟩)] w fun e w' => e = .returned (.int .i64 d.size) ∧ w = w' := by
  obtain ⟨c0, -, -, -⟩ := h.cells
  have HH := Lib.hid h
  clear h
  go_enter Try.func33, Try.ntmps33
  go_wp2_with fail
  obtain ⟨G, hG, -, -⟩ := HH.out.disk
  refine (size_any hG).mono ?_
  rintro e w' ⟨rfl, rfl⟩
  go_wp2_with fail
  go_ret
  exact ⟨rfl, rfl⟩
set_option maxHeartbeats 400000 in
theorem jis_any {j l : Nat} {d : DK} {bad : Int} {w : World} {H : Nat → Prop} (h : JAt j l d bad w H) (n : Int) : Calls Try.prog 59 #[.pointer (some ⟨j, 0, none⟩), .int .i64 n] w fun e w' => e = .returned (.bool (isJ d n)) ∧ w = w' := by
  have HH := Lib.hid h
  clear h
  obtain ⟨sn, hsn⟩ : ∃ sn, secs d = sn := ⟨_, rfl⟩
  have HS := Lib.hid hsn
  by_cases h0 : 0 ≤ n
  · have he : isJ d n = decide (n < sn) := by unfold isJ; rw [hsn]; simp [h0]
    rw [he]
    clear hsn he
    have hc : n < sn ∨ sn ≤ n := by omega
    rcases hc with hc | hc
    · rw [show decide (n < sn) = true by simpa using hc]
      go_enter Try.func59, Try.ntmps59
      go_wp2_with fail
      refine (jsectors_any HH.out).mono ?_
      rintro e w' ⟨rfl, rfl⟩
      rw [HS.out]
      go_wp2_with fail
      go_ret
      exact ⟨rfl, rfl⟩
    · rw [show decide (n < sn) = false by simpa using hc]
      go_enter Try.func59, Try.ntmps59
      go_wp2_with fail
      refine (jsectors_any HH.out).mono ?_
      rintro e w' ⟨rfl, rfl⟩
      rw [HS.out]
      go_wp2_with fail
      go_ret
      exact ⟨ret_bool (decide_eq_false (by omega)), rfl⟩
  · have he : isJ d n = false := by unfold isJ; simp; omega
    rw [he]
    have hc : n < 0 := by omega
    clear h0 he hsn
    go_enter Try.func59, Try.ntmps59
    go_wp2_with fail
    go_ret
    exact ⟨rfl, rfl⟩
set_option maxHeartbeats 400000 in
theorem jread_any {j l : Nat} {d : DK} {bad : Int} {w : World} {H : Nat → Prop} (h : JAt j l d bad w H) (n : Int) : Calls Try.prog 32 #[.pointer (some ⟨j, 0, none⟩), .int .i64 n] w (ReadP (jreadB d n) (jreadE d n) w) := by
  obtain ⟨c0, -, -, -⟩ := h.cells
  have HH := Lib.hid h
  have hn1 := h.good.n1
  clear h
  cases hi : isJ d n with
  | true =>
    have hb : jreadB d n = d.readB (9 + n) ∧ jreadE d n = d.readE (9 + n) := by simp [jreadB, jreadE, hi]
    have HI := Lib.hid hi
    have hr : 0 ≤ n ∧ n < 5000 := by
      unfold isJ secs at hi
      simp at hi
      omega
    obtain ⟨r0, r1⟩ := hr
    rw [hb.1, hb.2]
    clear hi hb
    go_enter Try.func32, Try.ntmps32
    go_wp2_with fail
    refine (jis_any HH.out n).mono ?_
    rintro e w' ⟨rfl, rfl⟩
    rw [HI.out]
    go_wp2_with fail
    obtain ⟨G, hG, -, -⟩ := HH.out.disk
    refine (read_any hG _).mono ?_
    rintro e w' ⟨s, rfl, h1, h2, h3, h4⟩
    have HX := Lib.hid (And.intro h1 (And.intro h2 (And.intro h3 h4)))
    clear h1 h2 h3 h4
    go_wp2_with fail
    go_ret2
    exact ⟨s, rfl, HX.out.1, HX.out.2.1, HX.out.2.2.1, HX.out.2.2.2⟩
  | false =>
    have hb : jreadB d n = d.readB (-1) ∧ jreadE d n = d.readE (-1) := by rw [(read_neg d).1, (read_neg d).2]; simp [jreadB, jreadE, hi]
    have HI := Lib.hid hi
    rw [hb.1, hb.2]
    clear hi hb
    go_enter Try.func32, Try.ntmps32
    go_wp2_with fail
    refine (jis_any HH.out n).mono ?_
    rintro e w' ⟨rfl, rfl⟩
    rw [HI.out]
    go_wp2_with fail
    obtain ⟨G, hG, -, -⟩ := HH.out.disk
    refine (read_any hG _).mono ?_
    rintro e w' ⟨s, rfl, h1, h2, h3, h4⟩
    have HX := Lib.hid (And.intro h1 (And.intro h2 (And.intro h3 h4)))
    clear h1 h2 h3 h4
    go_wp2_with fail
    go_ret2
    exact ⟨s, rfl, HX.out.1, HX.out.2.1, HX.out.2.2.1, HX.out.2.2.2⟩

/-- an act to come: a write that a closure holds (its captured cells), or the disk's Flush -/
inductive Stp where
  | wr (p3 p4 p5 : Nat) (n : Int) (s : SV) (b : Bs)
  | fl
instance : Inhabited Stp := ⟨.fl⟩
def Stp.val (l : Nat) : Stp → Value
  | .wr p3 p4 p5 _ _ _ => .func (.func 72) #[] #[.pointer (some ⟨p3, 0, none⟩), .pointer (some ⟨p4, 0, none⟩), .pointer (some ⟨p5, 0, none⟩)]
  | .fl => .func (.func 15) #[.pointer (some ⟨l, 0, none⟩)] #[]
def Stp.act : Stp → JA
  | .wr _ _ _ n _ b => some (n, b)
  | .fl => none
def StpR (l : Nat) : Rec Stp := ⟨1, fun s => [s.val l], fun _ => rfl, fun s u hu => by simp at hu; subst hu; cases s <;> rfl⟩
theorem stpK (l : Nat) : (StpR l).k = 1 := rfl
theorem infoSteps : (Try.prog.info? 34).map (fun i => (i.zero, i.size, i.bytes)) = some (some .nilFunc, 1, 8) := by kernel_rfl
theorem el_steps (l : Nat) : Elem Try.prog 99 34 (StpR l).k 8 := Elem.mk' Try.underlying99 infoSteps (by show 0 < 1; omega) rfl
/-- a write's captured cells, beside H -/
structure WCell (w : World) (H : Nat → Prop) (j p3 p4 p5 : Nat) (n : Int) (s : SV) (b : Bs) : Prop where
  c3 : w.cell? ⟨p3, 0, none⟩ = some (.pointer (some ⟨j, 0, none⟩))
  a3 : ¬ H p3
  c4 : w.cell? ⟨p4, 0, none⟩ = some (.int .i64 n)
  a4 : ¬ H p4
  c5 : w.cell? ⟨p5, 0, none⟩ = some s.val
  a5 : ¬ H p5
  len : s.n = b.length
  row : Bes ByteR s.ao b w H
  max : b.length ≤ 9223372036854775807
def Stp.Ok (w : World) (H : Nat → Prop) (j : Nat) : Stp → Prop
  | .wr p3 p4 p5 n s b => WCell w H j p3 p4 p5 n s b
  | .fl => True
theorem lt_of_cell {w : World} {p : Nat} {o : Nat} {v : Value} (h : w.cell? ⟨p, o, none⟩ = some v) : p < w.heap.size := World.block_lt_of_cell? w _ h
theorem keep_cell {w w' : World} {H H' : Nat → Prop} (t : Step H H' w w') {p o : Nat} {v : Value} (h : w.cell? ⟨p, o, none⟩ = some v) (ha : ¬ H p) : w'.cell? ⟨p, o, none⟩ = some v ∧ ¬ H' p :=
  ⟨((t.keep (lt_of_cell h) ha).1 o).trans h, (t.keep (lt_of_cell h) ha).2.2⟩
theorem WCell.step {w w' : World} {H H' : Nat → Prop} {j p3 p4 p5 : Nat} {n : Int} {s : SV} {b : Bs} (h : WCell w H j p3 p4 p5 n s b) (t : Step H H' w w') : WCell w' H' j p3 p4 p5 n s b :=
  ⟨(keep_cell t h.c3 h.a3).1, (keep_cell t h.c3 h.a3).2, (keep_cell t h.c4 h.a4).1, (keep_cell t h.c4 h.a4).2, (keep_cell t h.c5 h.a5).1, (keep_cell t h.c5 h.a5).2, h.len, h.row.step t, h.max⟩
theorem WCell.fr {w w' : World} {H : Nat → Prop} {j p3 p4 p5 : Nat} {n : Int} {s : SV} {b : Bs} (h : WCell w H j p3 p4 p5 n s b) (f : Fr noBlock w w') : WCell w' H j p3 p4 p5 n s b := h.step (Step.same f)
theorem Stp.Ok.step {w w' : World} {H H' : Nat → Prop} {j : Nat} {s : Stp} (h : s.Ok w H j) (t : Step H H' w w') : s.Ok w' H' j := by
  cases s with
  | fl => trivial
  | wr p3 p4 p5 n s b => exact WCell.step h t
theorem Stp.Ok.fr {w w' : World} {H : Nat → Prop} {j : Nat} {s : Stp} (h : s.Ok w H j) (f : Fr noBlock w w') : s.Ok w' H j := h.step (Step.same f)

def JWriteP (j l : Nat) (d' : DK) (bad x : Int) (H : Nat → Prop) (w : World) (e : Ending) (w' : World) : Prop := ∃ H', e = .returned (.int .i64 x) ∧ JAt j l d' bad w' H' ∧ Step H H' w w'
set_option maxHeartbeats 400000 in
/-- a closure's act -/
theorem jclos_any {j l : Nat} {d : DK} {bad : Int} {w : World} {H : Nat → Prop} (h : JAt j l d bad w H) {p3 p4 p5 : Nat} {n : Int} {s : SV} {b : Bs} (ho : WCell w H j p3 p4 p5 n s b) :
    Calls Try.prog 72 #[.pointer (some ⟨p3, 0, none⟩), .pointer (some ⟨p4, 0, none⟩), .pointer (some ⟨p5, 0, none⟩)] w (JWriteP j l (d.write n b) bad (d.writeE n b.length) H w) := by
  obtain ⟨c0, -, -, -⟩ := h.cells
  have HH := Lib.hid h
  have HO := Lib.hid ho
  obtain ⟨a1, -, b1, -, d1, -, e, -, hz⟩ := ho
  obtain ⟨sa, sn, sc⟩ := s
  simp only at e
  subst e
  unfold SV.val at d1
  simp only at d1
  have HS := Lib.hid (And.intro a1 (And.intro c0 (And.intro b1 d1)))
  clear h a1 b1 d1 c0
  go_enter Try.func72, Try.ntmps72
  go_wp2_with fail
  go_region_held3 (fun W => W.cell? ⟨p3, 0, none⟩ = some (.pointer (some ⟨j, 0, none⟩)) ∧ W.cell? ⟨j, 0, none⟩ = some (.pointer (some ⟨l, 0, none⟩)) ∧ W.cell? ⟨p4, 0, none⟩ = some (.int .i64 n) ∧ W.cell? ⟨p5, 0, none⟩ = some (.slice sa b.length sc))
    (first | exact HS.out | exact hS1)
    ((go_at_call 13; obtain ⟨G, hG, hsub, st⟩ := (JAt.ok.fr0 HH.out ((Fr.refl _ _).drew)).disk; have hO := HO.out.fr ((Fr.refl _ _).drew); (with_reducible refine (write_any0 hG n hO.row.rd (fun h0 a e hh => absurd (hsub _ hh) (hO.row.ap h0 a e).1) sc hz).mono ?_); rintro e w1 ⟨G', rfl, h1, s1⟩; obtain ⟨H1, hA1, hT1⟩ := st _ _ _ h1 s1; have hO1 := hO.step hT1; have hS1 := And.intro hO1.c3 (And.intro hA1.cells.1 (And.intro hO1.c4 hO1.c5))))
  have HA := Lib.hid (And.intro hA1 hT1)
  clear hA1 hT1 hS1 hG hsub st h1 s1 hO hO1
  go_wp2_with fail
  go_ret
  exact ⟨_, rfl, HA.out.1, (Step.same ((Fr.refl noBlock _).drew)).trans HA.out.2⟩
/-- a closure that writes -/
def JWrP (j : Nat) (n : Int) (ao : Option Addr) (len cap : Nat) (w : World) (e : Ending) (w' : World) : Prop := ∃ p3 p4 p5, e = .returned (.func (.func 72) #[] #[.pointer (some ⟨p3, 0, none⟩), .pointer (some ⟨p4, 0, none⟩), .pointer (some ⟨p5, 0, none⟩)]) ∧
  w'.cell? ⟨p3, 0, none⟩ = some (.pointer (some ⟨j, 0, none⟩)) ∧ w'.cell? ⟨p4, 0, none⟩ = some (.int .i64 n) ∧ w'.cell? ⟨p5, 0, none⟩ = some (.slice ao len cap) ∧ w.heap.size ≤ p3 ∧ w.heap.size ≤ p4 ∧ w.heap.size ≤ p5 ∧ Fr noBlock w w'
theorem jwrite_any (j : Nat) (n : Int) (ao : Option Addr) (len cap : Nat) (w : World) : Calls Try.prog 56 #[.pointer (some ⟨j, 0, none⟩), .int .i64 n, .slice ao len cap] w (JWrP j n ao len cap w) := by
  go_enter Try.func56, Try.ntmps56
  go_wp2_with fail
  go_ret
  have e1 := heap_new w (.cells #[.pointer (some ⟨j, 0, none⟩)] 60 (0, 0))
  have e2 := heap_new (w.alloc (.cells #[.pointer (some ⟨j, 0, none⟩)] 60 (0, 0))) (.cells #[.int .i64 n] 3 (0, 0))
  have e3 := heap_new ((w.alloc (.cells #[.pointer (some ⟨j, 0, none⟩)] 60 (0, 0))).alloc (.cells #[.int .i64 n] 3 (0, 0))) (.cells #[.slice ao len cap] 23 (0, 0))
  have s1 : (w.alloc (.cells #[.pointer (some ⟨j, 0, none⟩)] 60 (0, 0))).heap.size = w.heap.size + 1 := by simp
  have s2 : ((w.alloc (.cells #[.pointer (some ⟨j, 0, none⟩)] 60 (0, 0))).alloc (.cells #[.int .i64 n] 3 (0, 0))).heap.size = w.heap.size + 2 := by simp
  rw [s2] at e3
  have e2' := heap_old (.cells #[.slice ao len cap] 23 (0, 0)) e2
  have e1' := heap_old (.cells #[.slice ao len cap] 23 (0, 0)) (heap_old (.cells #[.int .i64 n] 3 (0, 0)) e1)
  rw [s1] at e2'
  exact ⟨w.heap.size, w.heap.size + 1, w.heap.size + 2, rfl, by simpa using cell_of e1' 0, by simpa using cell_of e2' 0, by simpa using cell_of e3 0, Nat.le_refl _, by omega, by omega, (((Fr.refl noBlock w).alloc _).alloc _).alloc _⟩
theorem JWrP.stp {j : Nat} {n : Int} {s : SV} {b : Bs} {w w' : World} {H : Nat → Prop} {p3 p4 p5 : Nat} (h3 : w'.cell? ⟨p3, 0, none⟩ = some (.pointer (some ⟨j, 0, none⟩))) (h4 : w'.cell? ⟨p4, 0, none⟩ = some (.int .i64 n)) (h5 : w'.cell? ⟨p5, 0, none⟩ = some s.val)
    (g3 : w.heap.size ≤ p3) (g4 : w.heap.size ≤ p4) (g5 : w.heap.size ≤ p5) (hH : ∀ k, H k → k < w.heap.size) (hl : s.n = b.length) (hb : Bes ByteR s.ao b w' H) (hm : b.length ≤ 9223372036854775807) : (Stp.wr p3 p4 p5 n s b).Ok w' H j :=
  ⟨h3, fun h => by have := hH _ h; omega, h4, fun h => by have := hH _ h; omega, h5, fun h => by have := hH _ h; omega, hl, hb, hm⟩
end Go.Proofs.Ytmcckppmciflmaa
