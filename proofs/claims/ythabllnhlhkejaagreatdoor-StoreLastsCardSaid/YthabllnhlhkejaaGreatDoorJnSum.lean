/-
  THE WALK of the journal's sum: the check sum of the writes' bytes, in four bytes.
-/
import Derived.Deep.RegionHeld3
import Derived.Shelf.Abstract
import Derived.Test.YthabllnhlhkejaaGreatDoorCrc
import Derived.Test.YthabllnhlhkejaaGreatDoorJnP
import Derived.Test.YthabllnhlhkejaaGreatDoorBes
namespace Go.Proofs.YthabllnhlhkejaaGreatDoor
open Go.RowKit

/-- bytes in new memory, and an error -/
theorem read_nil {w w' : World} {x : Int} {e : Ending} (he : e = .returned (.tuple #[.slice none 0 0, .int .i64 x])) (hf : Fr noBlock w w') : ReadP [] x w e w' :=
  ⟨⟨none, 0, 0⟩, he, rfl, RowAt.nil, hf, fun k hk => by cases hk⟩
theorem ret_two' {s : SV} {x : Int} : Ending.returned (.tuple #[s.val, .int .i64 x]) = .returned (.tuple #[.slice s.ao s.n s.cap, .int .i64 x]) := rfl

set_option maxRecDepth 100000 in
set_option maxHeartbeats 800000 in
theorem read_any {l : Nat} {d : DK} {w : World} {F : Nat → Prop} (h : DiskAt l d w F) (n : Int) : Calls Tryz.prog 55 #[.pointer (some ⟨l, 0, none⟩), .int .i64 n] w (ReadP (d.readB n) (d.readE n) w) := by
  have His := Lib.hid (is_any h n _ rfl)
  have hgood := h.good
  obtain ⟨acts, part, sv, ss, bm, g, hin⟩ := h
  obtain ⟨c0, c1, c2, c3, c4, c5, c6⟩ := hin.cells
  have hs0 := hgood.s0
  have hs1 := hgood.s1
  have hn1 := hgood.n1
  clear c1 c2 c3 c4
  cases hoff : d.off with
  | true =>
    rw [hoff] at c0
    have Hd := Lib.hid (show d.readB n = [] ∧ d.readE n = 30 by simp [DK.readB, DK.readE, hoff])
    clear hin hoff c5 c6
    go_enter Tryz.func55, Tryz.ntmps55
    go_wp2_with fail
    go_ret2
    rw [Hd.out.1, Hd.out.2]
    exact read_nil rfl (Fr.refl _ _)
  | false =>
    rw [hoff] at c0
    cases his : d.isS n with
    | false =>
      have Hd := Lib.hid (show d.readB n = [] ∧ d.readE n = 31 by simp [DK.readB, DK.readE, hoff, his])
      rw [his] at His
      clear hin hoff c5 c6
      go_enter Tryz.func55, Tryz.ntmps55
      go_wp2_with fail
      refine His.out.mono ?_
      rintro e w1 ⟨rfl, rfl⟩
      go_wp2_with fail
      go_ret2
      rw [Hd.out.1, Hd.out.2]
      exact read_nil rfl (Fr.refl _ _)
    | true =>
      rw [his] at His
      obtain ⟨hn0, hnl⟩ := DK.isS_iff.1 his
      have hlook := hin.map.look (mt := 44) Tryz.underlying44 (zero_bytes w) (kI_ok hn0 (by omega) : kI.ok n)
      cases hg : g n with
      | some t =>
        obtain ⟨b, hb, hbl, hbt⟩ := hin.dirt_buf hg
        have Hd := Lib.hid (show d.readB n = b ∧ d.readE n = 0 by simp [DK.readB, DK.readE, hoff, his, hb])
        obtain ⟨gt, ct, et, _, _⟩ := sv_form hbt (by omega)
        have Hc := Lib.hid (fun W (hW : Fr noBlock w W) => clone_any (RowAt.rd (E := 5) (by rw [et] at hbt; exact hbt.fr0 hW)) ct (by omega))
        simp only [hg, Option.map_some, Option.getD_some, Option.isSome_some, et] at hlook
        unfold SV.val at hlook
        simp only at hlook
        have hl1 : (Instr.lookup 44 (.map (some bm)) (.int .i64 n) true).run Tryz.prog w = .ok (.tuple #[.slice (some ⟨gt, 0, none⟩) b.length ct, .bool true]) w := hlook
        clear hlook hin hoff c5 hb hbt hg his hbl et
        go_enter Tryz.func55, Tryz.ntmps55
        go_wp2_with fail
        refine His.out.mono ?_
        rintro e w1 ⟨rfl, rfl⟩
        go_wp2_with fail
        refine (Hc.out _ (Fr.refl _ _)).mono ?_
        rintro e w2 ⟨s, rfl, hsn, hr, hf, hnew⟩
        clear hl1
        go_wp2_with fail
        go_ret2
        rw [Hd.out.1, Hd.out.2]
        exact ⟨s, rfl, hsn, hr, hf, hnew⟩
      | none =>
        have hnd : lookD d.dirty n = none := by have := hin.dirt n; rw [hg] at this; simpa using this.symm
        obtain ⟨i, hi⟩ : ∃ i : Nat, n = (i : Int) := ⟨n.toNat, by omega⟩
        subst hi
        have hil : i < d.safe.length := by omega
        have his' : i < ss.length := by rw [hin.len]; exact hil
        have Hd := Lib.hid (show d.readB i = d.safe[i] ∧ d.readE i = 0 by simp [DK.readB, DK.readE, hoff, his, hnd, List.getD, List.getElem?_eq_getElem hil])
        have hbt := hin.bufs i ss[i] d.safe[i] (List.getElem?_eq_getElem his') (List.getElem?_eq_getElem hil)
        have hbl : d.safe[i].length = d.size := hgood.sizes _ (List.getElem_mem hil)
        generalize hbe : d.safe[i] = b at *
        obtain ⟨gt, ct, et, _, _⟩ := sv_form hbt (by omega)
        obtain ⟨gr, cr, er, hcr, hel⟩ := rows_form hin.rows (by omega)
        obtain ⟨x0, _⟩ := hel i his'
        have Hc := Lib.hid (fun W (hW : Fr noBlock w W) => clone_any (RowAt.rd (E := 5) (by rw [et] at hbt; exact hbt.fr0 hW)) ct (by omega))
        rw [er] at c5
        rw [et] at x0
        unfold SV.val at c5 x0
        simp only at c5 x0
        simp only [hg, Option.map_none, Option.getD_none, Option.isSome_none] at hlook
        have hl1 : (Instr.lookup 44 (.map (some bm)) (.int .i64 i) true).run Tryz.prog w = .ok (.tuple #[.slice none 0 0, .bool false]) w := hlook
        have i2 : (i : Int) < (ss.length : Int) := by omega
        clear hlook hin hoff hbt hg his hbl et er hel hbe hnd
        go_enter Tryz.func55, Tryz.ntmps55
        go_wp2_with fail
        refine His.out.mono ?_
        rintro e w1 ⟨rfl, rfl⟩
        go_wp2_with fail
        refine (Hc.out _ (Fr.refl _ _)).mono ?_
        rintro e w2 ⟨s, rfl, hsn, hr, hf, hnew⟩
        clear hl1
        go_wp2_with fail
        go_ret2
        rw [Hd.out.1, Hd.out.2]
        exact ⟨s, rfl, hsn, hr, hf, hnew⟩

set_option maxRecDepth 100000 in
set_option maxHeartbeats 800000 in
theorem safe_any {l : Nat} {d : DK} {w : World} {F : Nat → Prop} (h : DiskAt l d w F) (n : Int) : Calls Tryz.prog 26 #[.pointer (some ⟨l, 0, none⟩), .int .i64 n] w (CloneP (d.safeB n) w) := by
  have His := Lib.hid (is_any h n _ rfl)
  have hgood := h.good
  obtain ⟨acts, part, sv, ss, bm, g, hin⟩ := h
  obtain ⟨c0, c1, c2, c3, c4, c5, c6⟩ := hin.cells
  have hs0 := hgood.s0
  have hs1 := hgood.s1
  have hn1 := hgood.n1
  clear c0 c1 c2 c3 c4 c6
  cases his : d.isS n with
  | false =>
    have Hd := Lib.hid (show d.safeB n = [] by simp [DK.safeB, his])
    rw [his] at His
    clear hin c5
    go_enter Tryz.func26, Tryz.ntmps26
    go_wp2_with fail
    refine His.out.mono ?_
    rintro e w1 ⟨rfl, rfl⟩
    go_wp2_with fail
    go_ret
    rw [Hd.out]
    exact ⟨⟨none, 0, 0⟩, rfl, rfl, RowAt.nil, Fr.refl _ _, fun k hk => by cases hk⟩
  | true =>
    rw [his] at His
    obtain ⟨hn0, hnl⟩ := DK.isS_iff.1 his
    obtain ⟨i, hi⟩ : ∃ i : Nat, n = (i : Int) := ⟨n.toNat, by omega⟩
    subst hi
    have hil : i < d.safe.length := by omega
    have his' : i < ss.length := by rw [hin.len]; exact hil
    have Hd := Lib.hid (show d.safeB i = d.safe[i] by simp [DK.safeB, his, List.getD, List.getElem?_eq_getElem hil])
    have hbt := hin.bufs i ss[i] d.safe[i] (List.getElem?_eq_getElem his') (List.getElem?_eq_getElem hil)
    have hbl : d.safe[i].length = d.size := hgood.sizes _ (List.getElem_mem hil)
    generalize hbe : d.safe[i] = b at *
    obtain ⟨gt, ct, et, _, _⟩ := sv_form hbt (by omega)
    obtain ⟨gr, cr, er, hcr, hel⟩ := rows_form hin.rows (by omega)
    obtain ⟨x0, _⟩ := hel i his'
    have Hc := Lib.hid (fun W (hW : Fr noBlock w W) => clone_any (RowAt.rd (E := 5) (by rw [et] at hbt; exact hbt.fr0 hW)) ct (by omega))
    rw [er] at c5
    rw [et] at x0
    unfold SV.val at c5 x0
    simp only at c5 x0
    have i2 : (i : Int) < (ss.length : Int) := by omega
    clear hin hbt his hbl et er hel hbe
    go_enter Tryz.func26, Tryz.ntmps26
    go_wp2_with fail
    refine His.out.mono ?_
    rintro e w1 ⟨rfl, rfl⟩
    go_wp2_with fail
    refine (Hc.out _ (Fr.refl _ _)).mono ?_
    rintro e w2 ⟨s, rfl, hsn, hr, hf, hnew⟩
    go_wp2_with fail
    go_ret
    rw [Hd.out]
    exact ⟨s, rfl, hsn, hr, hf, hnew⟩
end Go.Proofs.YthabllnhlhkejaaGreatDoor
namespace Go.Proofs.YthabllnhlhkejaaGreatDoor
open Go.RowKit

def Jobj (l : Nat) (bad : Int) : Obj := .cells #[.pointer (some ⟨l, 0, none⟩), .int .i64 bad] 100 (0, 0)
def JAt (j l : Nat) (d : DK) (bad : Int) : Thing := Two (DiskAt l d) (BoxT j (Jobj l bad))
theorem JAt.ok {j l : Nat} {d : DK} {bad : Int} : (JAt j l d bad).Ok := Two.ok DiskAt.ok BoxT.ok
theorem JAt.cells {j l : Nat} {d : DK} {bad : Int} {w : World} {H : Nat → Prop} (h : JAt j l d bad w H) : w.cell? ⟨j, 0, none⟩ = some (.pointer (some ⟨l, 0, none⟩)) ∧ w.cell? ⟨j, 1, none⟩ = some (.int .i64 bad) ∧ w.frozen? ⟨j, 1, none⟩ = false ∧ j < w.heap.size := by
  obtain ⟨F, G, h1, ⟨h2, h2'⟩, h3, h4⟩ := h
  exact ⟨by simpa using cell_of h2 0, by simpa using cell_of h2 1, free_of h2 1, heap_lt h2⟩
theorem JAt.disk {j l : Nat} {d : DK} {bad : Int} {w : World} {H : Nat → Prop} (h : JAt j l d bad w H) : ∃ G, DiskAt l d w G ∧ (∀ k, G k → H k) ∧ ∀ (d' : DK) (w' : World) (G' : Nat → Prop), DiskAt l d' w' G' → Step G G' w w' → ∃ H', JAt j l d' bad w' H' ∧ Step H H' w w' := by
  obtain ⟨F, G, h1, h2, h3, h4⟩ := h
  exact ⟨F, h1, fun k hk => (h4 k).2 (.inl hk), fun d' w' G' h' hs => ⟨_, Two.left BoxT.ok h2 h3 h4 h' hs⟩⟩
theorem JAt.good {j l : Nat} {d : DK} {bad : Int} {w : World} {H : Nat → Prop} (h : JAt j l d bad w H) : d.Good := by obtain ⟨F, G, h1, _⟩ := h; exact h1.good
/-- the error is another one -/
theorem JAt.setBad {j l : Nat} {d : DK} {bad : Int} {w : World} {H : Nat → Prop} (h : JAt j l d bad w H) (x : Int) : JAt j l d x (w.setCell ⟨j, 1, none⟩ (.int .i64 x)) H ∧ Step H H w (w.setCell ⟨j, 1, none⟩ (.int .i64 x)) := by
  obtain ⟨F, G, h1, ⟨h2, h2'⟩, h3, h4⟩ := h
  have hf : Fr (fun k => k = j) w (w.setCell ⟨j, 1, none⟩ (.int .i64 x)) := (Fr.refl (fun k => k = j) w).setCell (p := ⟨j, 1, none⟩) (.inl rfl) _
  have hj : G j := (h2' j).2 rfl
  refine ⟨⟨F, G, DiskAt.ok.fr h1 hf (fun k hk e => h3 k hk (by rw [e]; exact hj)), ⟨?_, h2'⟩, h3, h4⟩, ⟨hf.mono (fun k hk => by subst hk; exact (h4 _).2 (.inr hj)), fun _ hk => .inl hk⟩⟩
  have := heap_set_eq (i := 1) (u := .int .i64 x) h2
  simpa [Jobj] using this

def jreadB (d : DK) (n : Int) : Bs := if isJ d n then d.readB (9 + n) else []
def jreadE (d : DK) (n : Int) : Int := if isJ d n then d.readE (9 + n) else if d.off then 30 else 31
theorem read_neg (d : DK) : d.readB (-1) = [] ∧ d.readE (-1) = if d.off then 30 else 31 := by
  have : d.isS (-1) = false := by simp [DK.isS]
  unfold DK.readB DK.readE
  rw [this]
  cases d.off <;> exact ⟨rfl, rfl⟩

set_option maxHeartbeats 400000 in
theorem jsectors_any {j l : Nat} {d : DK} {bad : Int} {w : World} {H : Nat → Prop} (h : JAt j l d bad w H) : Calls Tryz.prog 88 #[.pointer (some ⟨j, 0, none⟩)] w fun e w' => e = .returned (.int .i64 (secs d)) ∧ w = w' := by
  obtain ⟨c0, -, -, -⟩ := h.cells
  have hn := h.good.n1
  have HH := Lib.hid h
  clear h
  go_enter Tryz.func88, Tryz.ntmps88
  go_wp2_with fail
  obtain ⟨G, hG, -, -⟩ := HH.out.disk
  refine (sectors_any hG).mono ?_
  rintro e w' ⟨rfl, rfl⟩
  go_wp2_with fail
  go_ret
  exact ⟨rfl, rfl⟩
set_option maxHeartbeats 400000 in
theorem jsize_any {j l : Nat} {d : DK} {bad : Int} {w : World} {H : Nat → Prop} (h : JAt j l d bad w H) : Calls Tryz.prog 21 #[.pointer (some ⟨j, 0, none⟩)] w fun e w' => e = .returned (.int .i64 d.size) ∧ w = w' := by
  obtain ⟨c0, -, -, -⟩ := h.cells
  have HH := Lib.hid h
  clear h
  go_enter Tryz.func21, Tryz.ntmps21
  go_wp2_with fail
  obtain ⟨G, hG, -, -⟩ := HH.out.disk
  refine (size_any hG).mono ?_
  rintro e w' ⟨rfl, rfl⟩
  go_wp2_with fail
  go_ret
  exact ⟨rfl, rfl⟩
set_option maxHeartbeats 400000 in
theorem jis_any {j l : Nat} {d : DK} {bad : Int} {w : World} {H : Nat → Prop} (h : JAt j l d bad w H) (n : Int) : Calls Tryz.prog 66 #[.pointer (some ⟨j, 0, none⟩), .int .i64 n] w fun e w' => e = .returned (.bool (isJ d n)) ∧ w = w' := by
  have HH := Lib.hid h
  clear h
  obtain ⟨sn, hsn⟩ : ∃ sn, secs d = sn := ⟨_, rfl⟩
  have HS := Lib.hid hsn
  by_cases h0 : 0 ≤ n
  · have he : isJ d n = decide (n < sn) := by unfold isJ; rw [hsn]; simp [h0]
    rw [he]
    clear hsn he
    have hc : n < sn ∨ sn ≤ n := by omega
    rcases hc with hc | hc
    · rw [show decide (n < sn) = true by simpa using hc]
      go_enter Tryz.func66, Tryz.ntmps66
      go_wp2_with fail
      refine (jsectors_any HH.out).mono ?_
      rintro e w' ⟨rfl, rfl⟩
      rw [HS.out]
      go_wp2_with fail
      go_ret
      exact ⟨rfl, rfl⟩
    · rw [show decide (n < sn) = false by simpa using hc]
      go_enter Tryz.func66, Tryz.ntmps66
      go_wp2_with fail
      refine (jsectors_any HH.out).mono ?_
      rintro e w' ⟨rfl, rfl⟩
      rw [HS.out]
      go_wp2_with fail
      go_ret
      exact ⟨ret_bool (decide_eq_false (by omega)), rfl⟩
  · have he : isJ d n = false := by unfold isJ; simp; omega
    rw [he]
    have hc : n < 0 := by omega
    clear h0 he hsn
    go_enter Tryz.func66, Tryz.ntmps66
    go_wp2_with fail
    go_ret
    exact ⟨rfl, rfl⟩
set_option maxHeartbeats 400000 in
theorem jread_any {j l : Nat} {d : DK} {bad : Int} {w : World} {H : Nat → Prop} (h : JAt j l d bad w H) (n : Int) : Calls Tryz.prog 48 #[.pointer (some ⟨j, 0, none⟩), .int .i64 n] w (ReadP (jreadB d n) (jreadE d n) w) := by
  obtain ⟨c0, -, -, -⟩ := h.cells
  have HH := Lib.hid h
  have hn1 := h.good.n1
  clear h
  cases hi : isJ d n with
  | true =>
    have hb : jreadB d n = d.readB (9 + n) ∧ jreadE d n = d.readE (9 + n) := by simp [jreadB, jreadE, hi]
    have HI := Lib.hid hi
    have hr : 0 ≤ n ∧ n < 5000 := by
      unfold isJ secs at hi
      simp at hi
      omega
    obtain ⟨r0, r1⟩ := hr
    rw [hb.1, hb.2]
    clear hi hb
    go_enter Tryz.func48, Tryz.ntmps48
    go_wp2_with fail
    refine (jis_any HH.out n).mono ?_
    rintro e w' ⟨rfl, rfl⟩
    rw [HI.out]
    go_wp2_with fail
    obtain ⟨G, hG, -, -⟩ := HH.out.disk
    refine (read_any hG _).mono ?_
    rintro e w' ⟨s, rfl, h1, h2, h3, h4⟩
    have HX := Lib.hid (And.intro h1 (And.intro h2 (And.intro h3 h4)))
    clear h1 h2 h3 h4
    go_wp2_with fail
    go_ret2
    exact ⟨s, rfl, HX.out.1, HX.out.2.1, HX.out.2.2.1, HX.out.2.2.2⟩
  | false =>
    have hb : jreadB d n = d.readB (-1) ∧ jreadE d n = d.readE (-1) := by rw [(read_neg d).1, (read_neg d).2]; simp [jreadB, jreadE, hi]
    have HI := Lib.hid hi
    rw [hb.1, hb.2]
    clear hi hb
    go_enter Tryz.func48, Tryz.ntmps48
    go_wp2_with fail
    refine (jis_any HH.out n).mono ?_
    rintro e w' ⟨rfl, rfl⟩
    rw [HI.out]
    go_wp2_with fail
    obtain ⟨G, hG, -, -⟩ := HH.out.disk
    refine (read_any hG _).mono ?_
    rintro e w' ⟨s, rfl, h1, h2, h3, h4⟩
    have HX := Lib.hid (And.intro h1 (And.intro h2 (And.intro h3 h4)))
    clear h1 h2 h3 h4
    go_wp2_with fail
    go_ret2
    exact ⟨s, rfl, HX.out.1, HX.out.2.1, HX.out.2.2.1, HX.out.2.2.2⟩

/-- an act to come: a write that a closure holds (its captured cells), or the disk's Flush -/
inductive Stp where
  | wr (p3 p4 p5 : Nat) (n : Int) (s : SV) (b : Bs)
  | fl
instance : Inhabited Stp := ⟨.fl⟩
def Stp.val (l : Nat) : Stp → Value
  | .wr p3 p4 p5 _ _ _ => .func (.func 69) #[] #[.pointer (some ⟨p3, 0, none⟩), .pointer (some ⟨p4, 0, none⟩), .pointer (some ⟨p5, 0, none⟩)]
  | .fl => .func (.func 44) #[.pointer (some ⟨l, 0, none⟩)] #[]
def Stp.act : Stp → JA
  | .wr _ _ _ n _ b => some (n, b)
  | .fl => none
def StpR (l : Nat) : Rec Stp := ⟨1, fun s => [s.val l], fun _ => rfl, fun s u hu => by simp at hu; subst hu; cases s <;> rfl⟩
theorem stpK (l : Nat) : (StpR l).k = 1 := rfl
theorem infoSteps : (Tryz.prog.info? 103).map (fun i => (i.zero, i.size, i.bytes)) = some (some .nilFunc, 1, 8) := by kernel_rfl
theorem el_steps (l : Nat) : Elem Tryz.prog 102 103 (StpR l).k 8 := Elem.mk' Tryz.underlying102 infoSteps (by show 0 < 1; omega) rfl
/-- a write's captured cells, beside H -/
structure WCell (w : World) (H : Nat → Prop) (j p3 p4 p5 : Nat) (n : Int) (s : SV) (b : Bs) : Prop where
  c3 : w.cell? ⟨p3, 0, none⟩ = some (.pointer (some ⟨j, 0, none⟩))
  a3 : ¬ H p3
  c4 : w.cell? ⟨p4, 0, none⟩ = some (.int .i64 n)
  a4 : ¬ H p4
  c5 : w.cell? ⟨p5, 0, none⟩ = some s.val
  a5 : ¬ H p5
  len : s.n = b.length
  row : Bes ByteR s.ao b w H
  max : b.length ≤ 9223372036854775807
def Stp.Ok (w : World) (H : Nat → Prop) (j : Nat) : Stp → Prop
  | .wr p3 p4 p5 n s b => WCell w H j p3 p4 p5 n s b
  | .fl => True
theorem lt_of_cell {w : World} {p : Nat} {o : Nat} {v : Value} (h : w.cell? ⟨p, o, none⟩ = some v) : p < w.heap.size := World.block_lt_of_cell? w _ h
theorem keep_cell {w w' : World} {H H' : Nat → Prop} (t : Step H H' w w') {p o : Nat} {v : Value} (h : w.cell? ⟨p, o, none⟩ = some v) (ha : ¬ H p) : w'.cell? ⟨p, o, none⟩ = some v ∧ ¬ H' p :=
  ⟨((t.keep (lt_of_cell h) ha).1 o).trans h, (t.keep (lt_of_cell h) ha).2.2⟩
theorem WCell.step {w w' : World} {H H' : Nat → Prop} {j p3 p4 p5 : Nat} {n : Int} {s : SV} {b : Bs} (h : WCell w H j p3 p4 p5 n s b) (t : Step H H' w w') : WCell w' H' j p3 p4 p5 n s b :=
  ⟨(keep_cell t h.c3 h.a3).1, (keep_cell t h.c3 h.a3).2, (keep_cell t h.c4 h.a4).1, (keep_cell t h.c4 h.a4).2, (keep_cell t h.c5 h.a5).1, (keep_cell t h.c5 h.a5).2, h.len, h.row.step t, h.max⟩
theorem WCell.fr {w w' : World} {H : Nat → Prop} {j p3 p4 p5 : Nat} {n : Int} {s : SV} {b : Bs} (h : WCell w H j p3 p4 p5 n s b) (f : Fr noBlock w w') : WCell w' H j p3 p4 p5 n s b := h.step (Step.same f)
theorem Stp.Ok.step {w w' : World} {H H' : Nat → Prop} {j : Nat} {s : Stp} (h : s.Ok w H j) (t : Step H H' w w') : s.Ok w' H' j := by
  cases s with
  | fl => trivial
  | wr p3 p4 p5 n s b => exact WCell.step h t
theorem Stp.Ok.fr {w w' : World} {H : Nat → Prop} {j : Nat} {s : Stp} (h : s.Ok w H j) (f : Fr noBlock w w') : s.Ok w' H j := h.step (Step.same f)

def JWriteP (j l : Nat) (d' : DK) (bad x : Int) (H : Nat → Prop) (w : World) (e : Ending) (w' : World) : Prop := ∃ H', e = .returned (.int .i64 x) ∧ JAt j l d' bad w' H' ∧ Step H H' w w'
set_option maxHeartbeats 400000 in
/-- a closure's act -/
theorem jclos_any {j l : Nat} {d : DK} {bad : Int} {w : World} {H : Nat → Prop} (h : JAt j l d bad w H) {p3 p4 p5 : Nat} {n : Int} {s : SV} {b : Bs} (ho : WCell w H j p3 p4 p5 n s b) :
    Calls Tryz.prog 69 #[.pointer (some ⟨p3, 0, none⟩), .pointer (some ⟨p4, 0, none⟩), .pointer (some ⟨p5, 0, none⟩)] w (JWriteP j l (d.write n b) bad (d.writeE n b.length) H w) := by
  obtain ⟨c0, -, -, -⟩ := h.cells
  have HH := Lib.hid h
  have HO := Lib.hid ho
  obtain ⟨a1, -, b1, -, d1, -, e, -, hz⟩ := ho
  obtain ⟨sa, sn, sc⟩ := s
  simp only at e
  subst e
  unfold SV.val at d1
  simp only at d1
  have HS := Lib.hid (And.intro a1 (And.intro c0 (And.intro b1 d1)))
  clear h a1 b1 d1 c0
  go_enter Tryz.func69, Tryz.ntmps69
  go_wp2_with fail
  go_region_held3 (fun W => W.cell? ⟨p3, 0, none⟩ = some (.pointer (some ⟨j, 0, none⟩)) ∧ W.cell? ⟨j, 0, none⟩ = some (.pointer (some ⟨l, 0, none⟩)) ∧ W.cell? ⟨p4, 0, none⟩ = some (.int .i64 n) ∧ W.cell? ⟨p5, 0, none⟩ = some (.slice sa b.length sc))
    (first | exact HS.out | exact hS1)
    ((go_at_call 70; obtain ⟨G, hG, hsub, st⟩ := (JAt.ok.fr0 HH.out ((Fr.refl _ _).drew)).disk; have hO := HO.out.fr ((Fr.refl _ _).drew); (with_reducible refine (write_any0 hG n hO.row.rd (fun h0 a e hh => absurd (hsub _ hh) (hO.row.ap h0 a e).1) sc hz).mono ?_); rintro e w1 ⟨G', rfl, h1, s1⟩; obtain ⟨H1, hA1, hT1⟩ := st _ _ _ h1 s1; have hO1 := hO.step hT1; have hS1 := And.intro hO1.c3 (And.intro hA1.cells.1 (And.intro hO1.c4 hO1.c5))))
  have HA := Lib.hid (And.intro hA1 hT1)
  clear hA1 hT1 hS1 hG hsub st h1 s1 hO hO1
  go_wp2_with fail
  go_ret
  exact ⟨_, rfl, HA.out.1, (Step.same ((Fr.refl noBlock _).drew)).trans HA.out.2⟩
/-- a closure that writes -/
def JWrP (j : Nat) (n : Int) (ao : Option Addr) (len cap : Nat) (w : World) (e : Ending) (w' : World) : Prop := ∃ p3 p4 p5, e = .returned (.func (.func 69) #[] #[.pointer (some ⟨p3, 0, none⟩), .pointer (some ⟨p4, 0, none⟩), .pointer (some ⟨p5, 0, none⟩)]) ∧
  w'.cell? ⟨p3, 0, none⟩ = some (.pointer (some ⟨j, 0, none⟩)) ∧ w'.cell? ⟨p4, 0, none⟩ = some (.int .i64 n) ∧ w'.cell? ⟨p5, 0, none⟩ = some (.slice ao len cap) ∧ w.heap.size ≤ p3 ∧ w.heap.size ≤ p4 ∧ w.heap.size ≤ p5 ∧ Fr noBlock w w'
theorem jwrite_any (j : Nat) (n : Int) (ao : Option Addr) (len cap : Nat) (w : World) : Calls Tryz.prog 43 #[.pointer (some ⟨j, 0, none⟩), .int .i64 n, .slice ao len cap] w (JWrP j n ao len cap w) := by
  go_enter Tryz.func43, Tryz.ntmps43
  go_wp2_with fail
  go_ret
  have e1 := heap_new w (.cells #[.pointer (some ⟨j, 0, none⟩)] 73 (0, 0))
  have e2 := heap_new (w.alloc (.cells #[.pointer (some ⟨j, 0, none⟩)] 73 (0, 0))) (.cells #[.int .i64 n] 3 (0, 0))
  have e3 := heap_new ((w.alloc (.cells #[.pointer (some ⟨j, 0, none⟩)] 73 (0, 0))).alloc (.cells #[.int .i64 n] 3 (0, 0))) (.cells #[.slice ao len cap] 28 (0, 0))
  have s1 : (w.alloc (.cells #[.pointer (some ⟨j, 0, none⟩)] 73 (0, 0))).heap.size = w.heap.size + 1 := by simp
  have s2 : ((w.alloc (.cells #[.pointer (some ⟨j, 0, none⟩)] 73 (0, 0))).alloc (.cells #[.int .i64 n] 3 (0, 0))).heap.size = w.heap.size + 2 := by simp
  rw [s2] at e3
  have e2' := heap_old (.cells #[.slice ao len cap] 28 (0, 0)) e2
  have e1' := heap_old (.cells #[.slice ao len cap] 28 (0, 0)) (heap_old (.cells #[.int .i64 n] 3 (0, 0)) e1)
  rw [s1] at e2'
  exact ⟨w.heap.size, w.heap.size + 1, w.heap.size + 2, rfl, by simpa using cell_of e1' 0, by simpa using cell_of e2' 0, by simpa using cell_of e3 0, Nat.le_refl _, by omega, by omega, (((Fr.refl noBlock w).alloc _).alloc _).alloc _⟩
theorem JWrP.stp {j : Nat} {n : Int} {s : SV} {b : Bs} {w w' : World} {H : Nat → Prop} {p3 p4 p5 : Nat} (h3 : w'.cell? ⟨p3, 0, none⟩ = some (.pointer (some ⟨j, 0, none⟩))) (h4 : w'.cell? ⟨p4, 0, none⟩ = some (.int .i64 n)) (h5 : w'.cell? ⟨p5, 0, none⟩ = some s.val)
    (g3 : w.heap.size ≤ p3) (g4 : w.heap.size ≤ p4) (g5 : w.heap.size ≤ p5) (hH : ∀ k, H k → k < w.heap.size) (hl : s.n = b.length) (hb : Bes ByteR s.ao b w' H) (hm : b.length ≤ 9223372036854775807) : (Stp.wr p3 p4 p5 n s b).Ok w' H j :=
  ⟨h3, fun h => by have := hH _ h; omega, h4, fun h => by have := hH _ h; omega, h5, fun h => by have := hH _ h; omega, hl, hb, hm⟩
end Go.Proofs.YthabllnhlhkejaaGreatDoor
namespace Go.Proofs.YthabllnhlhkejaaGreatDoor
open Go.RowKit

/-- writes that came in, beside H -/
structure JWrs (w : World) (H : Nat → Prop) (ao : Option Addr) (ws : List (Int × SV)) (l : List JW) : Prop where
  rows : Bes DirtR ao ws w H
  len : ws.length = l.length
  each : ∀ (i : Nat) (p : Int × SV) (q : JW), ws[i]? = some p → l[i]? = some q → p.1 = q.1 ∧ p.2.n = q.2.length ∧ Bes ByteR p.2.ao q.2 w H
theorem JWrs.step {w w' : World} {H H' : Nat → Prop} {ao : Option Addr} {ws : List (Int × SV)} {l : List JW} (h : JWrs w H ao ws l) (t : Step H H' w w') : JWrs w' H' ao ws l :=
  ⟨h.rows.step t, h.len, fun i p q a b => ⟨(h.each i p q a b).1, (h.each i p q a b).2.1, (h.each i p q a b).2.2.step t⟩⟩
theorem JWrs.fr {w w' : World} {H : Nat → Prop} {ao : Option Addr} {ws : List (Int × SV)} {l : List JW} (h : JWrs w H ao ws l) (f : Fr noBlock w w') : JWrs w' H ao ws l := h.step (Step.same f)
theorem JWrs.sub {w : World} {H G : Nat → Prop} {ao : Option Addr} {ws : List (Int × SV)} {l : List JW} (h : JWrs w H ao ws l) (hg : ∀ k, G k → H k) : JWrs w G ao ws l :=
  ⟨h.rows.sub hg, h.len, fun i p q a b => ⟨(h.each i p q a b).1, (h.each i p q a b).2.1, (h.each i p q a b).2.2.sub hg⟩⟩
/-- the i-th write -/
theorem JWrs.at' {w : World} {H : Nat → Prop} {ao : Option Addr} {ws : List (Int × SV)} {l : List JW} (h : JWrs w H ao ws l) {i : Nat} (hi : i < l.length) :
    ∃ b off s, ao = some ⟨b, off, none⟩ ∧ b < w.heap.size ∧ w.cell? ⟨b, off + i * 2, none⟩ = some (.int .i64 l[i].1) ∧ w.cell? ⟨b, off + i * 2 + 1, none⟩ = some (.slice s.ao l[i].2.length s.cap) ∧ ws[i]? = some (l[i].1, s) ∧ s.n = l[i].2.length ∧ Bes ByteR s.ao l[i].2 w H := by
  have hi' : i < ws.length := by rw [h.len]; exact hi
  obtain ⟨b, off, e, hb, h3⟩ := h.rows.rd.at' i hi'
  obtain ⟨e1, e2, e3⟩ := h.each i ws[i] l[i] (List.getElem?_eq_getElem hi') (List.getElem?_eq_getElem hi)
  refine ⟨b, off, ws[i].2, e, hb, ?_, ?_, ?_, e2, e3⟩
  · have := h3 0 (.int .i64 ws[i].1) rfl
    rw [e1] at this
    exact this
  · have := h3 1 ws[i].2.val rfl
    unfold SV.val at this
    rw [e2] at this
    exact this
  · rw [List.getElem?_eq_getElem hi', ← e1]
/-- one new thing, in the second block that is new -/
theorem RowRd.one2 {α : Type} {R : Rec α} (w : World) (o : Obj) {cs : Array Value} {t : TypeId} {f : Nat × Nat} (x : α) (hx : cs.toList = R.cells x) : RowRd R ((w.alloc o).alloc (.cells cs t f)) (some ⟨w.heap.size + 1, 0, none⟩) [x] := by
  have := RowRd.one (heap_new (w.alloc o) (.cells cs t f)) x hx
  simpa using this
theorem u8_of (n : Nat) : ((UInt8.ofNat n).toNat : Int) = (n : Int) % 256 := by rw [UInt8.toNat_ofNat']; omega
set_option maxRecDepth 100000 in
set_option maxHeartbeats 1600000 in
theorem jsum_any {w : World} {H : Nat → Prop} {ao : Option Addr} {ws : List (Int × SV)} {l : List JW} (h : JWrs w H ao ws l) (cap : Nat) (hl : l.length ≤ 1000000) : Calls Tryz.prog 72 #[.slice ao l.length cap] w (CloneP (sumB l) w) := by
  have HW := Lib.hid h
  have hlen := h.len
  have HL := Lib.hid hlen
  clear h
  go_enter Tryz.func72, Tryz.ntmps72
  go_wp2_with fail
  go_loopw [3, 9] (fun s3 s9 wr => ∃ (i : Nat) (po : Option Addr) (pc : Nat), i ≤ l.length ∧ s9 = .int .i64 i ∧ s3 = .slice po i pc ∧ wr.ownsRow w.heap.size 28 SliceR.k (.slice po i pc) i (SliceR.flat ((ws.take i).map Prod.snd)) ∧ Fr noBlock w wr) (fun _ s9 _ => l.length - (intOf s9).toNat)
  case atStart => exact ⟨0, none, 0, Nat.zero_le _, rfl, rfl, World.ownsRow_nil _ _ _ _, Fr.refl _ _⟩
  case round =>
    obtain ⟨i, po, pc, hi, rfl, rfl, hrow, hf⟩ := hrel
    have Hf := Lib.hid hf
    have Hrow := Lib.hid hrow
    have hsz := hf.size
    by_cases hlt : i < l.length
    · have q1 : (i : Int) < (l.length : Int) := by omega
      obtain ⟨b, off, s, rfl, hb, y0, y1, hws, -, -⟩ := (HW.out.fr hf).at' hlt
      have hzs : (ws.take i).map Prod.snd ++ [s] = (ws.take (i + 1)).map Prod.snd := by
        rw [List.take_add_one, hws]; simp
      have Hzs := Lib.hid hzs
      have hln : ((ws.take (i + 1)).map Prod.snd).length = i + 1 := by simp; omega
      have Hln := Lib.hid hln
      obtain ⟨sa, sn, sc⟩ := s
      simp only at y1
      have hsn : sn = l[i].2.length := by
        have hi' : i < ws.length := by omega
        have := (HW.out.each i _ l[i] hws (List.getElem?_eq_getElem hlt)).2.1
        exact this
      generalize l[i] = q at *
      obtain ⟨qn, qb⟩ := q
      simp only at y0 y1 hsn
      subst hsn
      clear hws hzs hln hlt hlen hrow hf
      go_wp2_with (at_builtin; apply stop_here)
      refine ⟨?_, trivial⟩
      refine wpList_app rfl _ _ rfl el_rows (v := .slice po i pc) ((ws.take i).map Prod.snd) [(⟨sa, qb.length, sc⟩ : SV)] ((ws.take (i + 1)).map Prod.snd) Hzs.out w.heap.size i (i + 1) Hln.out.symm rfl ((Hrow.out.alloc _).alloc _) rfl (RowRd.one2 wr _ (⟨sa, qb.length, sc⟩ : SV) rfl) rfl (by unfold maxLen; omega) (by omega) (by simp; omega) ?_
      intro ao3 cap3 w3 o3 g3 _
      go_frame
      have O3 := Lib.hid o3
      have Hf3 := Lib.hid (((Hf.out.alloc _).alloc _).grown g3 (fun k hk => .inr (Hrow.out.lt k hk).1))
      clear o3 g3
      go_wp2_with fail
      go_roundw
      case rel => exact ⟨i + 1, ao3, cap3, by omega, by go_num, rfl, O3.out, Hf3.out⟩
      case measure => simp [intOf]; omega
    · have q1 : (l.length : Int) ≤ (i : Int) := by omega
      have e : i = l.length := by omega
      subst e
      have htk : (ws.take l.length).map Prod.snd = ws.map Prod.snd := by rw [List.take_of_length_le (by omega)]
      have hrow2 := hrow
      rw [htk] at hrow2
      have hml : (ws.map Prod.snd).length = l.length := by simp [hlen]
      have hat : RowAt 28 SliceR wr (.slice po l.length pc) (ws.map Prod.snd) := RowAt.of_own hrow2 hml.symm
      have hrd := RowAt.rd hat
      have hpr : PartsRd wr (ws.map Prod.snd) (l.map Prod.snd) := by
        refine ⟨by simp [hlen], fun i s p h1 h2 => ?_⟩
        rw [List.getElem?_map, Option.map_eq_some_iff] at h1 h2
        obtain ⟨a, ha, rfl⟩ := h1
        obtain ⟨b, hb, rfl⟩ := h2
        obtain ⟨_, e2, e3⟩ := HW.out.each i a b ha hb
        exact ⟨e2, (e3.fr hf).rd⟩
      have hfl : (l.map Prod.snd).flatten = l.flatMap Prod.snd := by rw [List.flatMap_def]
      have Hs := Lib.hid (sum_any hrd hpr pc (by omega))
      rw [hml, hfl] at Hs
      have hcr := crc_range (l.flatMap Prod.snd)
      obtain ⟨cs, hcs⟩ : ∃ cs : Nat, crc (l.flatMap Prod.snd) = (cs : Int) := ⟨(crcS (l.flatMap Prod.snd)).toNat, rfl⟩
      have hsb : sumB l = by4 cs := by unfold sumB; congr 1; unfold crc at hcs; omega
      rw [hcs] at hcr
      rw [hcs] at Hs
      have Hsb := Lib.hid hsb
      obtain ⟨hc0, hc1⟩ := hcr
      clear htk hrow2 hml hat hrd hpr hfl hcs hsb hrow hf hlt hlen
      go_wp2_with fail
      refine Hs.out.mono ?_
      rintro e w2 ⟨rfl, f2⟩
      have HF2 := Lib.hid (Hf.out.trans' f2)
      clear f2
      go_wp2_with fail
      go_ret
      have hbk := heap_new w2 (.cells #[.int .u8 ((cs : Int) / 16777216), .int .u8 ((cs : Int) / 65536 % 256), .int .u8 ((cs : Int) / 256 % 256), .int .u8 ((cs : Int) % 256)] 5 (0, 0))
      refine ⟨⟨some ⟨w2.heap.size, 0, none⟩, 4, 4⟩, rfl, rfl, ?_, HF2.out.alloc _, fun k hk => by cases hk; exact HF2.out.size⟩
      rw [Hsb.out]
      refine RowAt.of_block (xs := by4 cs) hbk (by simp [by4]) (by show 4 ≤ maxLen; unfold maxLen; omega) rfl ?_
      rw [flat_bytes]
      simp only [by4, List.map_cons, List.map_nil, byteV, u8_of]
      have e1 : ((cs / 16777216 : Nat) : Int) % 256 = (cs : Int) / 16777216 := by omega
      have e2 : ((cs / 65536 : Nat) : Int) % 256 = (cs : Int) / 65536 % 256 := by omega
      have e3 : ((cs / 256 : Nat) : Int) % 256 = (cs : Int) / 256 % 256 := by omega
      rw [e1, e2, e3]
      rfl
end Go.Proofs.YthabllnhlhkejaaGreatDoor
