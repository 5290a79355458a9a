/-
  THE WALK of the document's disk: Write.
-/
import Derived.Test.YtmcckppmciflmaaRdFlush
namespace Go.Proofs.Ytmcckppmciflmaa
open Go.RowKit

/-- how far the new row of dirty ones is -/
structure WI (D : Dirt) (n : Nat) (b : Bs) (i : Nat) (done : Bool) (O : Dirt) : Prop where
  no : done = false → putD D n b = O ++ putD (D.drop i) n b
  yes : done = true → putD D n b = O ++ D.drop i ∧ ∀ p ∈ D.drop i, n < p.1
theorem WI.start (D : Dirt) (n : Nat) (b : Bs) : WI D n b 0 false [] := ⟨fun _ => by simp, fun h => by cases h⟩
theorem WI.len {D : Dirt} {n : Nat} {b : Bs} {i : Nat} {done : Bool} {O : Dirt} (h : WI D n b i done O) (hr : Rise D) : O.length ≤ D.length + 1 := by
  have hp : (putD D n b).length ≤ D.length + 1 := by rw [putD_len hr]; split <;> omega
  cases done with
  | false => have := h.no rfl; rw [this] at hp; simp at hp; omega
  | true => have := (h.yes rfl).1; rw [this] at hp; simp at hp; omega
theorem WI.lt {D : Dirt} {n : Nat} {b : Bs} {i : Nat} {O : Dirt} (h : WI D n b i false O) {q : Nat × Bs} (hq : D[i]? = some q) (hl : q.1 < n) : WI D n b (i + 1) false (O ++ [q]) := by
  obtain ⟨hi, rfl⟩ := List.getElem?_eq_some_iff.1 hq
  refine ⟨fun _ => ?_, fun h => by cases h⟩
  rw [h.no rfl, drop_cons hi, putD, if_pos hl, List.append_assoc, List.singleton_append]
theorem WI.eq {D : Dirt} {n : Nat} {b : Bs} {i : Nat} {O : Dirt} (hr : Rise D) (h : WI D n b i false O) {q : Nat × Bs} (hq : D[i]? = some q) (he : q.1 = n) : WI D n b (i + 1) true (O ++ [(n, b)]) := by
  obtain ⟨hi, rfl⟩ := List.getElem?_eq_some_iff.1 hq
  refine ⟨fun h => (by cases h), fun _ => ⟨?_, ?_⟩⟩
  · rw [h.no rfl, drop_cons hi, putD, if_neg (by omega), if_pos he, List.append_assoc, List.singleton_append]
  · intro p hp
    have hd : Rise (D.drop i) := hr.sublist (List.drop_sublist _ _)
    rw [drop_cons hi] at hd
    have := (List.pairwise_cons.1 hd).1 p hp
    omega
theorem WI.gt {D : Dirt} {n : Nat} {b : Bs} {i : Nat} {O : Dirt} (hr : Rise D) (h : WI D n b i false O) {q : Nat × Bs} (hq : D[i]? = some q) (he : n < q.1) : WI D n b (i + 1) true (O ++ [(n, b)] ++ [q]) := by
  obtain ⟨hi, rfl⟩ := List.getElem?_eq_some_iff.1 hq
  refine ⟨fun h => (by cases h), fun _ => ⟨?_, ?_⟩⟩
  · rw [h.no rfl, drop_cons hi, putD, if_neg (by omega), if_neg (by omega)]
    simp
  · intro p hp
    have hd : Rise (D.drop i) := hr.sublist (List.drop_sublist _ _)
    rw [drop_cons hi] at hd
    have := (List.pairwise_cons.1 hd).1 p hp
    omega
theorem WI.on {D : Dirt} {n : Nat} {b : Bs} {i : Nat} {O : Dirt} (h : WI D n b i true O) {q : Nat × Bs} (hq : D[i]? = some q) : WI D n b (i + 1) true (O ++ [q]) ∧ n < q.1 := by
  obtain ⟨hi, rfl⟩ := List.getElem?_eq_some_iff.1 hq
  obtain ⟨h1, h2⟩ := h.yes rfl
  rw [drop_cons hi] at h1
  exact ⟨⟨fun h => (by cases h), fun _ => ⟨by rw [h1]; simp, fun p hp => h2 p (by rw [drop_cons hi]; exact List.mem_cons_of_mem _ hp)⟩⟩, h2 _ (by rw [drop_cons hi]; exact List.mem_cons_self ..)⟩
theorem WI.last {D : Dirt} {n : Nat} {b : Bs} {done : Bool} {O : Dirt} (h : WI D n b D.length done O) : putD D n b = if done then O else O ++ [(n, b)] := by
  cases done with
  | false => have := h.no rfl; rw [List.drop_length] at this; simpa [putD] using this
  | true => have := (h.yes rfl).1; rw [List.drop_length] at this; simpa using this

/-- the cells of a row's things tell these -/
def Pairs (w : World) (G : Nat → Prop) (os : List (Int × SV)) (O : Dirt) : Prop := os.length = O.length ∧ ∀ (i : Nat) (p : Int × SV) (q : Nat × Bs), os[i]? = some p → O[i]? = some q → p.1 = q.1 ∧ Buf w G p.2 q.2
theorem Pairs.nil (w : World) (G : Nat → Prop) : Pairs w G [] [] := ⟨rfl, fun i p q h => by simp at h⟩
theorem Pairs.one {w : World} {G : Nat → Prop} {os : List (Int × SV)} {O : Dirt} (h : Pairs w G os O) {p : Int × SV} {q : Nat × Bs} (h1 : p.1 = q.1) (h2 : Buf w G p.2 q.2) : Pairs w G (os ++ [p]) (O ++ [q]) := by
  refine ⟨by simp [h.1], fun i p' q' e1 e2 => ?_⟩
  by_cases hi : i < os.length
  · rw [List.getElem?_append_left hi] at e1
    rw [List.getElem?_append_left (by rw [← h.1]; exact hi)] at e2
    exact h.2 i p' q' e1 e2
  · have hlt := (List.getElem?_eq_some_iff.1 e1).1
    simp at hlt
    have hi' : i = os.length := by omega
    subst hi'
    rw [List.getElem?_append_right (Nat.le_refl _)] at e1
    rw [List.getElem?_append_right (by rw [h.1]; exact Nat.le_refl _), h.1] at e2
    simp at e1 e2
    subst e1 e2
    exact ⟨h1, h2⟩
theorem Pairs.fr {w w' : World} {G : Nat → Prop} {os : List (Int × SV)} {O : Dirt} (h : Pairs w G os O) (hf : Fr noBlock w w') : Pairs w' G os O :=
  ⟨h.1, fun i p q h1 h2 => ⟨(h.2 i p q h1 h2).1, (h.2 i p q h1 h2).2.row.fr0 hf, (h.2 i p q h1 h2).2.own⟩⟩

def RWriteP (l : Nat) (d' : DK) (x : Int) (F : Nat → Prop) (w : World) (e : Ending) (w' : World) : Prop := ∃ F', e = .returned (.int .i64 x) ∧ RDiskAt l d' w' F' ∧ Step F F' w w'
set_option maxRecDepth 100000 in
set_option maxHeartbeats 3200000 in
theorem rwrite_any {l : Nat} {d : DK} {w : World} {F : Nat → Prop} (h : RDiskAt l d w F) (n : Int) {ao : Option Addr} {b : Bs} (hb : RowRd ByteR w ao b) (hap : 0 < b.length → ∀ a, ao = some a → ¬ F a.block) (cap : Nat) (hbn : b.length ≤ 9223372036854775807) :
    Calls Try.prog 45 #[.pointer (some ⟨l, 0, none⟩), .int .i64 n, .slice ao b.length cap] w (RWriteP l (d.write n b) (d.writeE n b.length) F w) := by
  have H := Lib.hid h
  have hcut := Lib.hid (goes_any h)
  have HB := Lib.hid hb
  have HAP := Lib.hid hap
  have hgood := h.good
  have hn4 := hgood.n1
  have hs1 := hgood.s1
  have hs0 := hgood.s0
  have hdl := dirt_len hgood
  obtain ⟨acts, part, sv, dv, ss, ps, hin⟩ := h
  obtain ⟨c0, c1, c2, c3, c4, c5, c6⟩ := hin.cells
  obtain ⟨sa, sc, da, dc, rfl, rfl, hsl, hdl', hsr, hdr⟩ := hin.forms
  unfold SV.val at c0
  simp only at c0
  have hlen := hin.len
  have Harm := Lib.hid hin.arm
  have Hgood := Lib.hid hgood
  clear hin c1 c4 c5 hb hap hsr hdr hgood
  cases hoff : d.off with
  | true =>
    rw [hoff] at c3
    have Hd := Lib.hid (show d.write n b = d ∧ d.writeE n b.length = 30 by simp [DK.write, DK.writeE, hoff])
    clear hoff
    go_enter Try.func45, Try.ntmps45
    go_wp2_with fail
    go_ret
    exact ⟨F, ret_int Hd.out.2.symm, by rw [Hd.out.1]; exact H.out, Step.refl _ _⟩
  | false =>
    rw [hoff] at c3
    cases his : d.isS n with
    | false =>
      have Hd := Lib.hid (show d.write n b = d ∧ d.writeE n b.length = 31 by simp [DK.write, DK.writeE, hoff, his])
      have hcs : n < 0 ∨ (0 ≤ n ∧ (ss.length : Int) ≤ n) := by simp [DK.isS] at his; omega
      clear hoff his
      rcases hcs with q | ⟨q, q2⟩
      all_goals
        go_enter Try.func45, Try.ntmps45
        go_wp2_with fail
        go_ret
        exact ⟨F, ret_int Hd.out.2.symm, by rw [Hd.out.1]; exact H.out, Step.refl _ _⟩
    | true =>
      obtain ⟨hn0, hnl⟩ := DK.isS_iff.1 his
      have hnl' : n < (ss.length : Int) := by omega
      by_cases hlb : b.length = d.size
      · have hlb' : ((b.length : Int) != (d.size : Int)) = false := by simp [hlb]
        have hbz : b.length ≤ 4096 := by omega
        have hdE : d.writeE n b.length = if d.gone then 30 else 0 := by simp [DK.writeE, hoff, his, hlb]
        have hdW : d.write n b = if d.gone && !d.oddP then d.cut else { d.cut with dirty := putD d.dirty n.toNat b } := by simp [DK.write, hoff, his, hlb]
        have Hd := Lib.hid (And.intro hdE hdW)
        have hgw := Hgood.out.put his hlb
        have hgw2 : ({ d.cut with dirty := putD d.dirty n.toNat b } : DK).Good := by
          have h1 := Hgood.out.cut
          obtain ⟨e1, e2, e3⟩ := d.cut_same
          exact ⟨h1.s0, h1.s1, h1.n1, h1.sizes, hgw.rise, by show ∀ p ∈ putD d.dirty n.toNat b, p.1 < d.cut.safe.length ∧ p.2.length = d.cut.size; rw [e1, e2]; exact hgw.there, h1.arm⟩
        have Hgw := Lib.hid hgw2
        have hpar : d.gone = true → ((part % 2 == 0) = !d.oddP) := by
          intro hg
          unfold DK.gone at hg
          split at hg
          · rename_i p hp
            have e := (Harm.out _ _ hp).2
            simp only [DK.oddP, hp, e]
            rw [Bool.eq_iff_iff]
            simp
          · cases hg
        have Hlen := Lib.hid hlb
        have hll : l < w.heap.size := Lib.hid (RDiskAt.ok.lt H.out l (by obtain ⟨_, _, _, _, _, _, hin⟩ := H.out; exact hin.hl)) |>.out
        obtain ⟨N, hN⟩ : ∃ N : Nat, n = (N : Int) := ⟨n.toNat, by omega⟩
        subst hN
        obtain ⟨e1, e2, e3⟩ := d.cut_same
        have E3 := Lib.hid e3
        have Hcut := Lib.hid hcut.out
        clear hdE hdW hoff his hlb hgw hgw2 e1 e2 e3 hcut hlen
        have go2 : ∀ (g o : Bool), d.gone = g → (g = true → d.oddP = o) → (g = true → o = true) ∨ (g = true ∧ o = false) := by intro g o _ _; cases g <;> cases o <;> simp
        clear go2
        cases hg : d.gone with
        | true =>
          have hpr := hpar hg
          cases ho : d.oddP with
          | false =>
            have hp0 : (part % 2 == 0) = true := by rw [hpr, ho]; rfl
            unfold GoesP at Hcut
            rw [hg] at Hcut Hd
            rw [ho] at Hd
            clear hpr hpar hg ho
            go_enter Try.func45, Try.ntmps45
            go_wp2_with fail
            refine Hcut.out.mono ?_
            rintro e w1 ⟨rfl, h1, s1⟩
            have S1 := Lib.hid (And.intro h1 s1)
            clear h1 s1
            go_wp2_with fail
            refine (mod_any part 2 _ (by omega) (by omega)).mono ?_
            rintro e w2 ⟨rfl, rfl⟩
            go_wp2_with fail
            go_ret
            exact ⟨F, ret_int (by rw [Hd.out.1]; rfl), by rw [Hd.out.2]; exact S1.out.1, S1.out.2⟩
          | true =>
            have hp0 : (part % 2 == 0) = false := by rw [hpr, ho]; rfl
            unfold GoesP at Hcut
            rw [hg] at Hcut Hd
            rw [ho] at Hd
            clear hpr hpar hg ho
            go_enter Try.func45, Try.ntmps45
            go_wp2_with fail
            refine Hcut.out.mono ?_
            rintro e w1 ⟨rfl, h1, s1⟩
            have S1 := Lib.hid (And.intro h1 s1)
            clear h1 s1
            go_wp2_with fail
            refine (mod_any part 2 _ (by omega) (by omega)).mono ?_
            rintro e w2 ⟨rfl, rfl⟩
            have HB1 := Lib.hid (HB.out.fr S1.out.2.fr (fun b' off e => HAP.out (by have := Hlen.out; omega) _ e))
            go_wp2_with (at_builtin; apply stop_here)
            refine ⟨?_, trivial⟩
            refine wpList_app rfl _ _ rfl el_bytes (v := .slice (some ⟨w1.heap.size, 0, none⟩) 0 0) [] b b rfl w1.heap.size 0 b.length rfl rfl (World.ownsRow_made w1 #[] 0 (Nat.le_refl _) (Nat.zero_le _) rfl) rfl (HB1.out.fr0 ((Fr.refl _ _).alloc _)) rfl (by unfold maxLen; omega) (by omega) (by simp) ?_
            intro ax cx w2 o2 g2 _
            go_frame
            have hf2 : Fr noBlock w1 w2 := (((Fr.refl noBlock w1).alloc (.cells #[] 5)).grown g2 (fun k hk => by simp [Value.ownBlock] at hk; subst hk; exact .inr (Nat.le_refl _)))
            have hxr : RowAt 5 ByteR w2 (.slice ax b.length cx) b := RowAt.of_own o2 rfl
            have hxn : ∀ k, (Value.slice ax b.length cx).ownBlock = some k → w1.heap.size ≤ k := fun k hk => (o2.lt k hk).1
            have hbox := heap_new w2 (.cells #[.int .i64 N, .slice ax b.length cx] 111)
            have hfW : Fr noBlock w1 (w2.alloc (.cells #[.int .i64 N, .slice ax b.length cx] 111)) := hf2.alloc _
            have hxW := hxr.fr0 ((Fr.refl noBlock w2).alloc (.cells #[.int .i64 N, .slice ax b.length cx] 111))
            clear o2 g2
            go_wp2_with fail
            obtain ⟨W0, hW0⟩ : ∃ W0, w2.alloc (.cells #[.int .i64 N, .slice ax b.length cx] 111) = W0 := ⟨_, rfl⟩
            rw [hW0] at hbox hfW hxW ⊢
            obtain ⟨hxl, hb0, hb1⟩ : w2.heap.size < W0.heap.size ∧ W0.cell? ⟨w2.heap.size, 0, none⟩ = some (.int .i64 N) ∧ W0.cell? ⟨w2.heap.size, 1, none⟩ = some (.slice ax b.length cx) := ⟨heap_lt hbox, by simpa using cell_of hbox 0, by simpa using cell_of hbox 1⟩
            obtain ⟨h1, s1⟩ := S1.out
            have S1 := Lib.hid s1
            obtain ⟨acts1, part1, sv1, dv1, ss1, ps1, hin1⟩ := h1
            have H1 := Lib.hid hin1
            have hinW := hin1.fr hfW (fun _ _ x => x)
            obtain ⟨da1, dc1, rfl, hdl1, _, _, hdr1, _⟩ := hinW.forms2
            have HfW := Lib.hid hfW
            have HW := Lib.hid hinW
            have c1W := hinW.cells.2.1
            unfold SV.val at c1W
            simp only at c1W
            rw [E3.out] at c1W
            have C1 := Lib.hid c1W
            have Z1 := Lib.hid (free_of hinW.box 1)
            have hlW : l < W0.heap.size := heap_lt hinW.box
            have Hdr := Lib.hid hdr1
            have Hpl := Lib.hid (show ps1.length = d.dirty.length by rw [hinW.dlen, E3.out])
            have HX := Lib.hid (show Buf W0 (fun k => F k ∨ w1.heap.size ≤ k) ⟨ax, b.length, cx⟩ b from ⟨hxW, fun k hk => .inr (hxn k hk)⟩)
            have Hb0 := Lib.hid hb0
            have Hb1 := Lib.hid hb1
            have Hfc := Lib.hid Hgood.out.rise
            clear hf2 hxr hxn hbox hfW hxW hW0 s1 hin1 hinW hdr1 hb0 hb1 c1W c0 c2 c3 c6 HB1
            go_loopw [9, 10, 12] (fun s9 s10 s12 wr => ∃ (i : Nat) (done : Bool) (ov : Option Addr) (oc : Nat) (os : List (Int × SV)) (O : Dirt), i ≤ d.dirty.length ∧ s12 = .int .i64 i ∧ s10 = .bool done ∧ s9 = .slice ov os.length oc ∧ wr.ownsRow W0.heap.size 111 DirtR.k (.slice ov os.length oc) os.length (DirtR.flat os) ∧ Fr noBlock W0 wr ∧ Pairs W0 (fun k => F k ∨ w1.heap.size ≤ k) os O ∧ Hid (WI d.dirty N b i done O)) (fun _ _ s12 _ => d.dirty.length - (intOf s12).toNat)
            case atStart => exact ⟨0, false, none, 0, [], [], Nat.zero_le _, rfl, rfl, rfl, World.ownsRow_nil _ _ _ _, Fr.refl _ _, Pairs.nil _ _, Lib.hid (WI.start _ _ _)⟩
            case round =>
              obtain ⟨i, done, ov, oc, os, O, hi, rfl, rfl, rfl, hrow, hf, hP, HI⟩ := hrel
              have hol : os.length ≤ 4097 := by have h1 := HI.out.len Hfc.out; have h2 := hP.1; omega
              have Hrow := Lib.hid hrow
              have Hf := Lib.hid hf
              have HP := Lib.hid hP
              have c1 := (hf.cell (p := ⟨l, 1, none⟩) hlW (fun x => x)).trans C1.out
              have xb0 := (hf.cell (p := ⟨w2.heap.size, 0, none⟩) hxl (fun x => x)).trans Hb0.out
              have xb1 := (hf.cell (p := ⟨w2.heap.size, 1, none⟩) hxl (fun x => x)).trans Hb1.out
              have hwz := hf.size
              by_cases hlt : i < d.dirty.length
              · have q1 : (i : Int) < (d.dirty.length : Int) := by omega
                have hip : i < ps1.length := by have := Hpl.out; omega
                obtain ⟨bb, off, rfl, hbl, _⟩ := Hdr.out.at' i hip
                obtain ⟨Yy0, Yy1⟩ := dirt_rd Hdr.out hip
                obtain ⟨q, hq, eq1, _, _, _, hbuf⟩ := HW.out.dirt_at hip
                have hq' : d.dirty[i]? = some q := by rw [← E3.out]; exact hq
                generalize ps1[i] = p at *
                obtain ⟨pn, a2, n2, c2⟩ := p
                unfold SV.val at Yy1
                simp only at Yy0 Yy1 eq1
                have y0 := (hf.cell (p := ⟨bb, off + i * 2, none⟩) hbl (fun x => x)).trans Yy0
                have y1 := (hf.cell (p := ⟨bb, off + i * 2 + 1, none⟩) hbl (fun x => x)).trans Yy1
                have Y0 := Lib.hid Yy0
                have Y1 := Lib.hid Yy1
                have HQ := Lib.hid hq'
                have HE := Lib.hid eq1
                have HBq := Lib.hid (hbuf.mono (fun k hk => (Or.inl hk : F k ∨ w1.heap.size ≤ k)))
                clear hq hq' hbuf Yy0 Yy1 hrow hf hP hip hlt eq1
                cases done with
                | true =>
                  obtain ⟨hwi, hgt⟩ := HI.out.on HQ.out
                  have Hwi := Lib.hid hwi
                  have hgt' : (N : Int) < pn := by rw [HE.out]; omega
                  have hne : (pn != (N : Int)) = true := by simp; omega
                  clear hwi hgt
                  go_wp2_with (at_builtin; apply stop_here)
                  refine ⟨?_, trivial⟩
                  refine wpList_app rfl _ _ rfl el_dirts (v := .slice ov (os.length) oc) os [(pn, (⟨a2, n2, c2⟩ : SV))] (os ++ [(pn, (⟨a2, n2, c2⟩ : SV))]) rfl W0.heap.size (os.length) (os.length + 1) (by simp) rfl (Hrow.out.alloc _) rfl (RowRd.one (heap_new wr _) (pn, (⟨a2, n2, c2⟩ : SV)) rfl) rfl (by unfold maxLen; omega) (by omega) (by simp; omega) ?_
                  intro ov3 oc3 w3 o3 g3 _
                  go_frame

                  have hf3 : Fr noBlock W0 w3 := (Hf.out.alloc _).grown g3 (fun k hk => .inr (Hrow.out.lt k hk).1)
                  have O3 := Lib.hid o3
                  have Hf3 := Lib.hid hf3

                  clear o3 g3 hf3

                  go_wp2_with fail
                  go_roundw
                  case rel => exact ⟨i + 1, true, ov3, oc3, os ++ [(pn, ⟨a2, n2, c2⟩)], O ++ [q], by omega, by go_num, rfl, by simp, by simpa using O3.out, Hf3.out, HP.out.one HE.out HBq.out, Lib.hid (Hwi.out)⟩
                  case measure => simp [intOf]; omega
                | false =>
                  have hcs : q.1 < N ∨ q.1 = N ∨ N < q.1 := by omega
                  rcases hcs with hc | hc | hc
                  · have Hwi := Lib.hid (HI.out.lt HQ.out hc)
                    have hlt' : pn < (N : Int) := by rw [HE.out]; omega
                    have hne : (pn != (N : Int)) = true := by simp; omega
                    clear hc
                    go_wp2_with (at_builtin; apply stop_here)
                    refine ⟨?_, trivial⟩
                    refine wpList_app rfl _ _ rfl el_dirts (v := .slice ov (os.length) oc) os [(pn, (⟨a2, n2, c2⟩ : SV))] (os ++ [(pn, (⟨a2, n2, c2⟩ : SV))]) rfl W0.heap.size (os.length) (os.length + 1) (by simp) rfl (Hrow.out.alloc _) rfl (RowRd.one (heap_new wr _) (pn, (⟨a2, n2, c2⟩ : SV)) rfl) rfl (by unfold maxLen; omega) (by omega) (by simp; omega) ?_
                    intro ov3 oc3 w3 o3 g3 _
                    go_frame

                    have hf3 : Fr noBlock W0 w3 := (Hf.out.alloc _).grown g3 (fun k hk => .inr (Hrow.out.lt k hk).1)
                    have O3 := Lib.hid o3
                    have Hf3 := Lib.hid hf3

                    clear o3 g3 hf3

                    go_wp2_with fail
                    go_roundw
                    case rel => exact ⟨i + 1, false, ov3, oc3, os ++ [(pn, ⟨a2, n2, c2⟩)], O ++ [q], by omega, by go_num, rfl, by simp, by simpa using O3.out, Hf3.out, HP.out.one HE.out HBq.out, Lib.hid (Hwi.out)⟩
                    case measure => simp [intOf]; omega
                  · have Hwi := Lib.hid (HI.out.eq Hfc.out HQ.out hc)
                    have hge : (N : Int) ≤ pn := by rw [HE.out]; omega
                    have hne : (pn != (N : Int)) = false := by rw [HE.out, hc]; simp
                    clear hc
                    go_wp2_with (at_builtin; apply stop_here)
                    refine ⟨?_, trivial⟩
                    refine wpList_app rfl _ _ rfl el_dirts (v := .slice ov (os.length) oc) os [((N : Int), (⟨ax, b.length, cx⟩ : SV))] (os ++ [((N : Int), (⟨ax, b.length, cx⟩ : SV))]) rfl W0.heap.size (os.length) (os.length + 1) (by simp) rfl (Hrow.out.alloc _) rfl (RowRd.one (heap_new wr _) ((N : Int), (⟨ax, b.length, cx⟩ : SV)) rfl) rfl (by unfold maxLen; omega) (by omega) (by simp; omega) ?_
                    intro ov3 oc3 w3 o3 g3 _
                    go_frame

                    have hf3 : Fr noBlock W0 w3 := (Hf.out.alloc _).grown g3 (fun k hk => .inr (Hrow.out.lt k hk).1)
                    have O3 := Lib.hid o3
                    have Hf3 := Lib.hid hf3

                    have e13 := (hf3.cell (p := ⟨l, 1, none⟩) hlW (fun x => x)).trans C1.out
                    have e23 := (hf3.cell (p := ⟨bb, off + i * 2, none⟩) hbl (fun x => x)).trans Y0.out
                    have e33 := (hf3.cell (p := ⟨bb, off + i * 2 + 1, none⟩) hbl (fun x => x)).trans Y1.out
                    clear c1 y0 y1

                    clear o3 g3 hf3

                    go_wp2_with fail
                    go_roundw
                    case rel => exact ⟨i + 1, true, ov3, oc3, os ++ [((N : Int), ⟨ax, b.length, cx⟩)], O ++ [(N, b)], by omega, by go_num, rfl, by simp, by simpa using O3.out, Hf3.out, HP.out.one rfl HX.out, Lib.hid (Hwi.out)⟩
                    case measure => simp [intOf]; omega
                  · have Hwi := Lib.hid (HI.out.gt Hfc.out HQ.out hc)
                    have hge : (N : Int) ≤ pn := by rw [HE.out]; omega
                    have hne : (pn != (N : Int)) = true := by rw [HE.out]; simp; omega
                    clear hc
                    go_wp2_with (at_builtin; apply stop_here)
                    refine ⟨?_, trivial⟩
                    refine wpList_app rfl _ _ rfl el_dirts (v := .slice ov (os.length) oc) os [((N : Int), (⟨ax, b.length, cx⟩ : SV))] (os ++ [((N : Int), (⟨ax, b.length, cx⟩ : SV))]) rfl W0.heap.size (os.length) (os.length + 1) (by simp) rfl (Hrow.out.alloc _) rfl (RowRd.one (heap_new wr _) ((N : Int), (⟨ax, b.length, cx⟩ : SV)) rfl) rfl (by unfold maxLen; omega) (by omega) (by simp; omega) ?_
                    intro ov3 oc3 w3 o3 g3 _
                    go_frame

                    have hf3 : Fr noBlock W0 w3 := (Hf.out.alloc _).grown g3 (fun k hk => .inr (Hrow.out.lt k hk).1)
                    have O3 := Lib.hid o3
                    have Hf3 := Lib.hid hf3

                    have e13 := (hf3.cell (p := ⟨l, 1, none⟩) hlW (fun x => x)).trans C1.out
                    have e23 := (hf3.cell (p := ⟨bb, off + i * 2, none⟩) hbl (fun x => x)).trans Y0.out
                    have e33 := (hf3.cell (p := ⟨bb, off + i * 2 + 1, none⟩) hbl (fun x => x)).trans Y1.out
                    clear c1 y0 y1

                    clear o3 g3 hf3

                    have Hrow3 := Lib.hid (show w3.ownsRow W0.heap.size 111 DirtR.k (.slice ov3 (os.length + 1) oc3) (os ++ [((N : Int), (⟨ax, b.length, cx⟩ : SV))]).length (DirtR.flat (os ++ [((N : Int), (⟨ax, b.length, cx⟩ : SV))])) by simpa using O3.out)
                    have hwz3 := Hf3.out.size

                    go_wp2_with (at_builtin; apply stop_here)
                    refine ⟨?_, trivial⟩
                    refine wpList_app rfl _ _ rfl el_dirts (v := .slice ov3 (os.length + 1) oc3) (os ++ [((N : Int), (⟨ax, b.length, cx⟩ : SV))]) [(pn, (⟨a2, n2, c2⟩ : SV))] ((os ++ [((N : Int), (⟨ax, b.length, cx⟩ : SV))]) ++ [(pn, (⟨a2, n2, c2⟩ : SV))]) rfl W0.heap.size (os.length + 1) (os.length + 1 + 1) (by simp) rfl (by simpa using Hrow3.out.alloc _) rfl (RowRd.one (heap_new w3 _) (pn, (⟨a2, n2, c2⟩ : SV)) rfl) rfl (by unfold maxLen; omega) (by omega) (by simp; omega) ?_
                    intro ov4 oc4 w4 o4 g4 _
                    go_frame

                    have hf4 : Fr noBlock W0 w4 := (Hf3.out.alloc _).grown g4 (fun k hk => .inr (Hrow3.out.lt k hk).1)
                    have O4 := Lib.hid o4
                    have Hf4 := Lib.hid hf4

                    clear o4 g4 hf4

                    go_wp2_with fail
                    go_roundw
                    case rel => exact ⟨i + 1, true, ov4, oc4, os ++ [((N : Int), ⟨ax, b.length, cx⟩)] ++ [(pn, ⟨a2, n2, c2⟩)], O ++ [(N, b)] ++ [q], by omega, by go_num, rfl, by simp, by simpa using O4.out, Hf4.out, (HP.out.one rfl HX.out).one HE.out HBq.out, Lib.hid (Hwi.out)⟩
                    case measure => simp [intOf]; omega
              · have q1 : (d.dirty.length : Int) ≤ (i : Int) := by omega
                have e : i = d.dirty.length := by omega
                subst e
                have HL := Lib.hid HI.out.last
                clear hrow hf hP hlt
                cases done with
                | true =>
                  have HPf := HP
                  have hO : putD d.dirty N b = O := by have := HL.out; simpa using this
                  have HO := Lib.hid hO
                  clear hO
                  have f1 := (Hf.out.cell (p := ⟨l, 1, none⟩) hlW (fun x => x)).trans C1.out
                  have f2 := (Hf.out.frozen (p := ⟨l, 1, none⟩) hlW (fun x => x)).trans Z1.out
                  go_wp2_with fail
                  refine (end_any _ _).mono ?_
                  rintro e w9 ⟨rfl, rfl⟩
                  go_wp2_with fail
                  go_ret
                  have hset : Fr (fun k => k = l) wr (wr.setCell ⟨l, 1, none⟩ (.slice ov (os.length) oc)) := (Fr.refl (fun k => k = l) wr).setCell (p := ⟨l, 1, none⟩) (.inl rfl) _
                  have hFW : Fr (fun k => k = l) W0 (wr.setCell ⟨l, 1, none⟩ (.slice ov (os.length) oc)) := (Hf.out.mono (fun _ x => x.elim)).trans hset (fun k hk => .inl hk)
                  have hF1 : Fr (fun k => k = l) w1 (wr.setCell ⟨l, 1, none⟩ (.slice ov (os.length) oc)) := (HfW.out.mono (fun _ x => x.elim)).trans hFW (fun k hk => .inl hk)
                  have hwz := HfW.out.size
                  have hrow : RowAt 111 DirtR wr (.slice ov (os.length) oc) (os) := RowAt.of_own Hrow.out (by simp)
                  have hnew : ∀ k, (Value.slice ov (os.length) oc).ownBlock = some k → W0.heap.size ≤ k := fun k hk => (Hrow.out.lt k hk).1
                  obtain ⟨hpl, hpp⟩ := HPf.out
                  obtain ⟨hR, hSt⟩ := H1.out.setD (dv' := ⟨ov, os.length, oc⟩) (ps' := os) (dirty' := putD d.dirty N b) hF1
                    (by have := heap_set_eq (i := 1) (u := .slice ov (os.length) oc) (Hf.out.obj HW.out.box (fun x => x)); simpa [SV.val] using this)
                    (hrow.fr hset (fun k hk e => by have := hnew k hk; omega)) (by rw [HO.out]; exact hpl) (fun k hk => .inr (by have := hnew k hk; omega))
                    (fun j p q h1 h2 => by
                      rw [HO.out] at h2
                      obtain ⟨e1, b1⟩ := hpp j p q h1 h2
                      have b2 := b1.keep hFW (fun k hk => by subst hk; exact HW.out.no_l) (fun _ x => x)
                      exact ⟨e1, b2.row, fun k hk => b2.own k hk⟩) Hgw.out
                  exact ⟨_, ret_int (by rw [Hd.out.1]; rfl), by rw [Hd.out.2]; exact ⟨_, _, _, _, _, _, hR⟩, S1.out.trans hSt⟩
                | false =>
                  have hO : putD d.dirty N b = O ++ [(N, b)] := by have := HL.out; simpa using this
                  have HO := Lib.hid hO
                  have HPf := Lib.hid (HP.out.one (p := ((N : Int), (⟨ax, b.length, cx⟩ : SV))) (q := (N, b)) rfl HX.out)
                  clear hO
                  go_wp2_with (at_builtin; apply stop_here)
                  refine ⟨?_, trivial⟩
                  refine wpList_app rfl _ _ rfl el_dirts (v := .slice ov (os.length) oc) os [((N : Int), (⟨ax, b.length, cx⟩ : SV))] (os ++ [((N : Int), (⟨ax, b.length, cx⟩ : SV))]) rfl W0.heap.size (os.length) (os.length + 1) (by simp) rfl (Hrow.out.alloc _) rfl (RowRd.one (heap_new wr _) ((N : Int), (⟨ax, b.length, cx⟩ : SV)) rfl) rfl (by unfold maxLen; omega) (by omega) (by simp; omega) ?_
                  intro ov3 oc3 w3 o3 g3 _
                  go_frame

                  have hf3 : Fr noBlock W0 w3 := (Hf.out.alloc _).grown g3 (fun k hk => .inr (Hrow.out.lt k hk).1)
                  have O3 := Lib.hid o3
                  have Hf3 := Lib.hid hf3

                  clear c1 o3 g3 hf3

                  have f1 := (Hf3.out.cell (p := ⟨l, 1, none⟩) hlW (fun x => x)).trans C1.out
                  have f2 := (Hf3.out.frozen (p := ⟨l, 1, none⟩) hlW (fun x => x)).trans Z1.out
                  go_wp2_with fail
                  refine (end_any _ _).mono ?_
                  rintro e w9 ⟨rfl, rfl⟩
                  go_wp2_with fail
                  go_ret
                  have hset : Fr (fun k => k = l) w3 (w3.setCell ⟨l, 1, none⟩ (.slice ov3 (os.length + 1) oc3)) := (Fr.refl (fun k => k = l) w3).setCell (p := ⟨l, 1, none⟩) (.inl rfl) _
                  have hFW : Fr (fun k => k = l) W0 (w3.setCell ⟨l, 1, none⟩ (.slice ov3 (os.length + 1) oc3)) := (Hf3.out.mono (fun _ x => x.elim)).trans hset (fun k hk => .inl hk)
                  have hF1 : Fr (fun k => k = l) w1 (w3.setCell ⟨l, 1, none⟩ (.slice ov3 (os.length + 1) oc3)) := (HfW.out.mono (fun _ x => x.elim)).trans hFW (fun k hk => .inl hk)
                  have hwz := HfW.out.size
                  have hrow : RowAt 111 DirtR w3 (.slice ov3 (os.length + 1) oc3) (os ++ [((N : Int), (⟨ax, b.length, cx⟩ : SV))]) := RowAt.of_own O3.out (by simp)
                  have hnew : ∀ k, (Value.slice ov3 (os.length + 1) oc3).ownBlock = some k → W0.heap.size ≤ k := fun k hk => (O3.out.lt k hk).1
                  obtain ⟨hpl, hpp⟩ := HPf.out
                  obtain ⟨hR, hSt⟩ := H1.out.setD (dv' := ⟨ov3, os.length + 1, oc3⟩) (ps' := os ++ [((N : Int), (⟨ax, b.length, cx⟩ : SV))]) (dirty' := putD d.dirty N b) hF1
                    (by have := heap_set_eq (i := 1) (u := .slice ov3 (os.length + 1) oc3) (Hf3.out.obj HW.out.box (fun x => x)); simpa [SV.val] using this)
                    (hrow.fr hset (fun k hk e => by have := hnew k hk; omega)) (by rw [HO.out]; exact hpl) (fun k hk => .inr (by have := hnew k hk; omega))
                    (fun j p q h1 h2 => by
                      rw [HO.out] at h2
                      obtain ⟨e1, b1⟩ := hpp j p q h1 h2
                      have b2 := b1.keep hFW (fun k hk => by subst hk; exact HW.out.no_l) (fun _ x => x)
                      exact ⟨e1, b2.row, fun k hk => b2.own k hk⟩) Hgw.out
                  exact ⟨_, ret_int (by rw [Hd.out.1]; rfl), by rw [Hd.out.2]; exact ⟨_, _, _, _, _, _, hR⟩, S1.out.trans hSt⟩
        | false =>
          unfold GoesP at Hcut
          rw [hg] at Hcut Hd
          clear hpar hg
          go_enter Try.func45, Try.ntmps45
          go_wp2_with fail
          refine Hcut.out.mono ?_
          rintro e w1 ⟨rfl, h1, s1⟩
          have S1 := Lib.hid (And.intro h1 s1)
          clear h1 s1
          have HB1 := Lib.hid (HB.out.fr S1.out.2.fr (fun b' off e => HAP.out (by have := Hlen.out; omega) _ e))
          go_wp2_with (at_builtin; apply stop_here)
          refine ⟨?_, trivial⟩
          refine wpList_app rfl _ _ rfl el_bytes (v := .slice (some ⟨w1.heap.size, 0, none⟩) 0 0) [] b b rfl w1.heap.size 0 b.length rfl rfl (World.ownsRow_made w1 #[] 0 (Nat.le_refl _) (Nat.zero_le _) rfl) rfl (HB1.out.fr0 ((Fr.refl _ _).alloc _)) rfl (by unfold maxLen; omega) (by omega) (by simp) ?_
          intro ax cx w2 o2 g2 _
          go_frame
          have hf2 : Fr noBlock w1 w2 := (((Fr.refl noBlock w1).alloc (.cells #[] 5)).grown g2 (fun k hk => by simp [Value.ownBlock] at hk; subst hk; exact .inr (Nat.le_refl _)))
          have hxr : RowAt 5 ByteR w2 (.slice ax b.length cx) b := RowAt.of_own o2 rfl
          have hxn : ∀ k, (Value.slice ax b.length cx).ownBlock = some k → w1.heap.size ≤ k := fun k hk => (o2.lt k hk).1
          have hbox := heap_new w2 (.cells #[.int .i64 N, .slice ax b.length cx] 111)
          have hfW : Fr noBlock w1 (w2.alloc (.cells #[.int .i64 N, .slice ax b.length cx] 111)) := hf2.alloc _
          have hxW := hxr.fr0 ((Fr.refl noBlock w2).alloc (.cells #[.int .i64 N, .slice ax b.length cx] 111))
          clear o2 g2
          go_wp2_with fail
          obtain ⟨W0, hW0⟩ : ∃ W0, w2.alloc (.cells #[.int .i64 N, .slice ax b.length cx] 111) = W0 := ⟨_, rfl⟩
          rw [hW0] at hbox hfW hxW ⊢
          obtain ⟨hxl, hb0, hb1⟩ : w2.heap.size < W0.heap.size ∧ W0.cell? ⟨w2.heap.size, 0, none⟩ = some (.int .i64 N) ∧ W0.cell? ⟨w2.heap.size, 1, none⟩ = some (.slice ax b.length cx) := ⟨heap_lt hbox, by simpa using cell_of hbox 0, by simpa using cell_of hbox 1⟩
          obtain ⟨h1, s1⟩ := S1.out
          have S1 := Lib.hid s1
          obtain ⟨acts1, part1, sv1, dv1, ss1, ps1, hin1⟩ := h1
          have H1 := Lib.hid hin1
          have hinW := hin1.fr hfW (fun _ _ x => x)
          obtain ⟨da1, dc1, rfl, hdl1, _, _, hdr1, _⟩ := hinW.forms2
          have HfW := Lib.hid hfW
          have HW := Lib.hid hinW
          have c1W := hinW.cells.2.1
          unfold SV.val at c1W
          simp only at c1W
          rw [E3.out] at c1W
          have C1 := Lib.hid c1W
          have Z1 := Lib.hid (free_of hinW.box 1)
          have hlW : l < W0.heap.size := heap_lt hinW.box
          have Hdr := Lib.hid hdr1
          have Hpl := Lib.hid (show ps1.length = d.dirty.length by rw [hinW.dlen, E3.out])
          have HX := Lib.hid (show Buf W0 (fun k => F k ∨ w1.heap.size ≤ k) ⟨ax, b.length, cx⟩ b from ⟨hxW, fun k hk => .inr (hxn k hk)⟩)
          have Hb0 := Lib.hid hb0
          have Hb1 := Lib.hid hb1
          have Hfc := Lib.hid Hgood.out.rise
          clear hf2 hxr hxn hbox hfW hxW hW0 s1 hin1 hinW hdr1 hb0 hb1 c1W c0 c2 c3 c6 HB1
          go_loopw [9, 10, 12] (fun s9 s10 s12 wr => ∃ (i : Nat) (done : Bool) (ov : Option Addr) (oc : Nat) (os : List (Int × SV)) (O : Dirt), i ≤ d.dirty.length ∧ s12 = .int .i64 i ∧ s10 = .bool done ∧ s9 = .slice ov os.length oc ∧ wr.ownsRow W0.heap.size 111 DirtR.k (.slice ov os.length oc) os.length (DirtR.flat os) ∧ Fr noBlock W0 wr ∧ Pairs W0 (fun k => F k ∨ w1.heap.size ≤ k) os O ∧ Hid (WI d.dirty N b i done O)) (fun _ _ s12 _ => d.dirty.length - (intOf s12).toNat)
          case atStart => exact ⟨0, false, none, 0, [], [], Nat.zero_le _, rfl, rfl, rfl, World.ownsRow_nil _ _ _ _, Fr.refl _ _, Pairs.nil _ _, Lib.hid (WI.start _ _ _)⟩
          case round =>
            obtain ⟨i, done, ov, oc, os, O, hi, rfl, rfl, rfl, hrow, hf, hP, HI⟩ := hrel
            have hol : os.length ≤ 4097 := by have h1 := HI.out.len Hfc.out; have h2 := hP.1; omega
            have Hrow := Lib.hid hrow
            have Hf := Lib.hid hf
            have HP := Lib.hid hP
            have c1 := (hf.cell (p := ⟨l, 1, none⟩) hlW (fun x => x)).trans C1.out
            have xb0 := (hf.cell (p := ⟨w2.heap.size, 0, none⟩) hxl (fun x => x)).trans Hb0.out
            have xb1 := (hf.cell (p := ⟨w2.heap.size, 1, none⟩) hxl (fun x => x)).trans Hb1.out
            have hwz := hf.size
            by_cases hlt : i < d.dirty.length
            · have q1 : (i : Int) < (d.dirty.length : Int) := by omega
              have hip : i < ps1.length := by have := Hpl.out; omega
              obtain ⟨bb, off, rfl, hbl, _⟩ := Hdr.out.at' i hip
              obtain ⟨Yy0, Yy1⟩ := dirt_rd Hdr.out hip
              obtain ⟨q, hq, eq1, _, _, _, hbuf⟩ := HW.out.dirt_at hip
              have hq' : d.dirty[i]? = some q := by rw [← E3.out]; exact hq
              generalize ps1[i] = p at *
              obtain ⟨pn, a2, n2, c2⟩ := p
              unfold SV.val at Yy1
              simp only at Yy0 Yy1 eq1
              have y0 := (hf.cell (p := ⟨bb, off + i * 2, none⟩) hbl (fun x => x)).trans Yy0
              have y1 := (hf.cell (p := ⟨bb, off + i * 2 + 1, none⟩) hbl (fun x => x)).trans Yy1
              have Y0 := Lib.hid Yy0
              have Y1 := Lib.hid Yy1
              have HQ := Lib.hid hq'
              have HE := Lib.hid eq1
              have HBq := Lib.hid (hbuf.mono (fun k hk => (Or.inl hk : F k ∨ w1.heap.size ≤ k)))
              clear hq hq' hbuf Yy0 Yy1 hrow hf hP hip hlt eq1
              cases done with
              | true =>
                obtain ⟨hwi, hgt⟩ := HI.out.on HQ.out
                have Hwi := Lib.hid hwi
                have hgt' : (N : Int) < pn := by rw [HE.out]; omega
                have hne : (pn != (N : Int)) = true := by simp; omega
                clear hwi hgt
                go_wp2_with (at_builtin; apply stop_here)
                refine ⟨?_, trivial⟩
                refine wpList_app rfl _ _ rfl el_dirts (v := .slice ov (os.length) oc) os [(pn, (⟨a2, n2, c2⟩ : SV))] (os ++ [(pn, (⟨a2, n2, c2⟩ : SV))]) rfl W0.heap.size (os.length) (os.length + 1) (by simp) rfl (Hrow.out.alloc _) rfl (RowRd.one (heap_new wr _) (pn, (⟨a2, n2, c2⟩ : SV)) rfl) rfl (by unfold maxLen; omega) (by omega) (by simp; omega) ?_
                intro ov3 oc3 w3 o3 g3 _
                go_frame

                have hf3 : Fr noBlock W0 w3 := (Hf.out.alloc _).grown g3 (fun k hk => .inr (Hrow.out.lt k hk).1)
                have O3 := Lib.hid o3
                have Hf3 := Lib.hid hf3

                clear o3 g3 hf3

                go_wp2_with fail
                go_roundw
                case rel => exact ⟨i + 1, true, ov3, oc3, os ++ [(pn, ⟨a2, n2, c2⟩)], O ++ [q], by omega, by go_num, rfl, by simp, by simpa using O3.out, Hf3.out, HP.out.one HE.out HBq.out, Lib.hid (Hwi.out)⟩
                case measure => simp [intOf]; omega
              | false =>
                have hcs : q.1 < N ∨ q.1 = N ∨ N < q.1 := by omega
                rcases hcs with hc | hc | hc
                · have Hwi := Lib.hid (HI.out.lt HQ.out hc)
                  have hlt' : pn < (N : Int) := by rw [HE.out]; omega
                  have hne : (pn != (N : Int)) = true := by simp; omega
                  clear hc
                  go_wp2_with (at_builtin; apply stop_here)
                  refine ⟨?_, trivial⟩
                  refine wpList_app rfl _ _ rfl el_dirts (v := .slice ov (os.length) oc) os [(pn, (⟨a2, n2, c2⟩ : SV))] (os ++ [(pn, (⟨a2, n2, c2⟩ : SV))]) rfl W0.heap.size (os.length) (os.length + 1) (by simp) rfl (Hrow.out.alloc _) rfl (RowRd.one (heap_new wr _) (pn, (⟨a2, n2, c2⟩ : SV)) rfl) rfl (by unfold maxLen; omega) (by omega) (by simp; omega) ?_
                  intro ov3 oc3 w3 o3 g3 _
                  go_frame

                  have hf3 : Fr noBlock W0 w3 := (Hf.out.alloc _).grown g3 (fun k hk => .inr (Hrow.out.lt k hk).1)
                  have O3 := Lib.hid o3
                  have Hf3 := Lib.hid hf3

                  clear o3 g3 hf3

                  go_wp2_with fail
                  go_roundw
                  case rel => exact ⟨i + 1, false, ov3, oc3, os ++ [(pn, ⟨a2, n2, c2⟩)], O ++ [q], by omega, by go_num, rfl, by simp, by simpa using O3.out, Hf3.out, HP.out.one HE.out HBq.out, Lib.hid (Hwi.out)⟩
                  case measure => simp [intOf]; omega
                · have Hwi := Lib.hid (HI.out.eq Hfc.out HQ.out hc)
                  have hge : (N : Int) ≤ pn := by rw [HE.out]; omega
                  have hne : (pn != (N : Int)) = false := by rw [HE.out, hc]; simp
                  clear hc
                  go_wp2_with (at_builtin; apply stop_here)
                  refine ⟨?_, trivial⟩
                  refine wpList_app rfl _ _ rfl el_dirts (v := .slice ov (os.length) oc) os [((N : Int), (⟨ax, b.length, cx⟩ : SV))] (os ++ [((N : Int), (⟨ax, b.length, cx⟩ : SV))]) rfl W0.heap.size (os.length) (os.length + 1) (by simp) rfl (Hrow.out.alloc _) rfl (RowRd.one (heap_new wr _) ((N : Int), (⟨ax, b.length, cx⟩ : SV)) rfl) rfl (by unfold maxLen; omega) (by omega) (by simp; omega) ?_
                  intro ov3 oc3 w3 o3 g3 _
                  go_frame

                  have hf3 : Fr noBlock W0 w3 := (Hf.out.alloc _).grown g3 (fun k hk => .inr (Hrow.out.lt k hk).1)
                  have O3 := Lib.hid o3
                  have Hf3 := Lib.hid hf3

                  have e13 := (hf3.cell (p := ⟨l, 1, none⟩) hlW (fun x => x)).trans C1.out
                  have e23 := (hf3.cell (p := ⟨bb, off + i * 2, none⟩) hbl (fun x => x)).trans Y0.out
                  have e33 := (hf3.cell (p := ⟨bb, off + i * 2 + 1, none⟩) hbl (fun x => x)).trans Y1.out
                  clear c1 y0 y1

                  clear o3 g3 hf3

                  go_wp2_with fail
                  go_roundw
                  case rel => exact ⟨i + 1, true, ov3, oc3, os ++ [((N : Int), ⟨ax, b.length, cx⟩)], O ++ [(N, b)], by omega, by go_num, rfl, by simp, by simpa using O3.out, Hf3.out, HP.out.one rfl HX.out, Lib.hid (Hwi.out)⟩
                  case measure => simp [intOf]; omega
                · have Hwi := Lib.hid (HI.out.gt Hfc.out HQ.out hc)
                  have hge : (N : Int) ≤ pn := by rw [HE.out]; omega
                  have hne : (pn != (N : Int)) = true := by rw [HE.out]; simp; omega
                  clear hc
                  go_wp2_with (at_builtin; apply stop_here)
                  refine ⟨?_, trivial⟩
                  refine wpList_app rfl _ _ rfl el_dirts (v := .slice ov (os.length) oc) os [((N : Int), (⟨ax, b.length, cx⟩ : SV))] (os ++ [((N : Int), (⟨ax, b.length, cx⟩ : SV))]) rfl W0.heap.size (os.length) (os.length + 1) (by simp) rfl (Hrow.out.alloc _) rfl (RowRd.one (heap_new wr _) ((N : Int), (⟨ax, b.length, cx⟩ : SV)) rfl) rfl (by unfold maxLen; omega) (by omega) (by simp; omega) ?_
                  intro ov3 oc3 w3 o3 g3 _
                  go_frame

                  have hf3 : Fr noBlock W0 w3 := (Hf.out.alloc _).grown g3 (fun k hk => .inr (Hrow.out.lt k hk).1)
                  have O3 := Lib.hid o3
                  have Hf3 := Lib.hid hf3

                  have e13 := (hf3.cell (p := ⟨l, 1, none⟩) hlW (fun x => x)).trans C1.out
                  have e23 := (hf3.cell (p := ⟨bb, off + i * 2, none⟩) hbl (fun x => x)).trans Y0.out
                  have e33 := (hf3.cell (p := ⟨bb, off + i * 2 + 1, none⟩) hbl (fun x => x)).trans Y1.out
                  clear c1 y0 y1

                  clear o3 g3 hf3

                  have Hrow3 := Lib.hid (show w3.ownsRow W0.heap.size 111 DirtR.k (.slice ov3 (os.length + 1) oc3) (os ++ [((N : Int), (⟨ax, b.length, cx⟩ : SV))]).length (DirtR.flat (os ++ [((N : Int), (⟨ax, b.length, cx⟩ : SV))])) by simpa using O3.out)
                  have hwz3 := Hf3.out.size

                  go_wp2_with (at_builtin; apply stop_here)
                  refine ⟨?_, trivial⟩
                  refine wpList_app rfl _ _ rfl el_dirts (v := .slice ov3 (os.length + 1) oc3) (os ++ [((N : Int), (⟨ax, b.length, cx⟩ : SV))]) [(pn, (⟨a2, n2, c2⟩ : SV))] ((os ++ [((N : Int), (⟨ax, b.length, cx⟩ : SV))]) ++ [(pn, (⟨a2, n2, c2⟩ : SV))]) rfl W0.heap.size (os.length + 1) (os.length + 1 + 1) (by simp) rfl (by simpa using Hrow3.out.alloc _) rfl (RowRd.one (heap_new w3 _) (pn, (⟨a2, n2, c2⟩ : SV)) rfl) rfl (by unfold maxLen; omega) (by omega) (by simp; omega) ?_
                  intro ov4 oc4 w4 o4 g4 _
                  go_frame

                  have hf4 : Fr noBlock W0 w4 := (Hf3.out.alloc _).grown g4 (fun k hk => .inr (Hrow3.out.lt k hk).1)
                  have O4 := Lib.hid o4
                  have Hf4 := Lib.hid hf4

                  clear o4 g4 hf4

                  go_wp2_with fail
                  go_roundw
                  case rel => exact ⟨i + 1, true, ov4, oc4, os ++ [((N : Int), ⟨ax, b.length, cx⟩)] ++ [(pn, ⟨a2, n2, c2⟩)], O ++ [(N, b)] ++ [q], by omega, by go_num, rfl, by simp, by simpa using O4.out, Hf4.out, (HP.out.one rfl HX.out).one HE.out HBq.out, Lib.hid (Hwi.out)⟩
                  case measure => simp [intOf]; omega
            · have q1 : (d.dirty.length : Int) ≤ (i : Int) := by omega
              have e : i = d.dirty.length := by omega
              subst e
              have HL := Lib.hid HI.out.last
              clear hrow hf hP hlt
              cases done with
              | true =>
                have HPf := HP
                have hO : putD d.dirty N b = O := by have := HL.out; simpa using this
                have HO := Lib.hid hO
                clear hO
                have f1 := (Hf.out.cell (p := ⟨l, 1, none⟩) hlW (fun x => x)).trans C1.out
                have f2 := (Hf.out.frozen (p := ⟨l, 1, none⟩) hlW (fun x => x)).trans Z1.out
                go_wp2_with fail
                refine (end_any _ _).mono ?_
                rintro e w9 ⟨rfl, rfl⟩
                go_wp2_with fail
                go_ret
                have hset : Fr (fun k => k = l) wr (wr.setCell ⟨l, 1, none⟩ (.slice ov (os.length) oc)) := (Fr.refl (fun k => k = l) wr).setCell (p := ⟨l, 1, none⟩) (.inl rfl) _
                have hFW : Fr (fun k => k = l) W0 (wr.setCell ⟨l, 1, none⟩ (.slice ov (os.length) oc)) := (Hf.out.mono (fun _ x => x.elim)).trans hset (fun k hk => .inl hk)
                have hF1 : Fr (fun k => k = l) w1 (wr.setCell ⟨l, 1, none⟩ (.slice ov (os.length) oc)) := (HfW.out.mono (fun _ x => x.elim)).trans hFW (fun k hk => .inl hk)
                have hwz := HfW.out.size
                have hrow : RowAt 111 DirtR wr (.slice ov (os.length) oc) (os) := RowAt.of_own Hrow.out (by simp)
                have hnew : ∀ k, (Value.slice ov (os.length) oc).ownBlock = some k → W0.heap.size ≤ k := fun k hk => (Hrow.out.lt k hk).1
                obtain ⟨hpl, hpp⟩ := HPf.out
                obtain ⟨hR, hSt⟩ := H1.out.setD (dv' := ⟨ov, os.length, oc⟩) (ps' := os) (dirty' := putD d.dirty N b) hF1
                  (by have := heap_set_eq (i := 1) (u := .slice ov (os.length) oc) (Hf.out.obj HW.out.box (fun x => x)); simpa [SV.val] using this)
                  (hrow.fr hset (fun k hk e => by have := hnew k hk; omega)) (by rw [HO.out]; exact hpl) (fun k hk => .inr (by have := hnew k hk; omega))
                  (fun j p q h1 h2 => by
                    rw [HO.out] at h2
                    obtain ⟨e1, b1⟩ := hpp j p q h1 h2
                    have b2 := b1.keep hFW (fun k hk => by subst hk; exact HW.out.no_l) (fun _ x => x)
                    exact ⟨e1, b2.row, fun k hk => b2.own k hk⟩) Hgw.out
                exact ⟨_, ret_int (by rw [Hd.out.1]; rfl), by rw [Hd.out.2]; exact ⟨_, _, _, _, _, _, hR⟩, S1.out.trans hSt⟩
              | false =>
                have hO : putD d.dirty N b = O ++ [(N, b)] := by have := HL.out; simpa using this
                have HO := Lib.hid hO
                have HPf := Lib.hid (HP.out.one (p := ((N : Int), (⟨ax, b.length, cx⟩ : SV))) (q := (N, b)) rfl HX.out)
                clear hO
                go_wp2_with (at_builtin; apply stop_here)
                refine ⟨?_, trivial⟩
                refine wpList_app rfl _ _ rfl el_dirts (v := .slice ov (os.length) oc) os [((N : Int), (⟨ax, b.length, cx⟩ : SV))] (os ++ [((N : Int), (⟨ax, b.length, cx⟩ : SV))]) rfl W0.heap.size (os.length) (os.length + 1) (by simp) rfl (Hrow.out.alloc _) rfl (RowRd.one (heap_new wr _) ((N : Int), (⟨ax, b.length, cx⟩ : SV)) rfl) rfl (by unfold maxLen; omega) (by omega) (by simp; omega) ?_
                intro ov3 oc3 w3 o3 g3 _
                go_frame

                have hf3 : Fr noBlock W0 w3 := (Hf.out.alloc _).grown g3 (fun k hk => .inr (Hrow.out.lt k hk).1)
                have O3 := Lib.hid o3
                have Hf3 := Lib.hid hf3

                clear c1 o3 g3 hf3

                have f1 := (Hf3.out.cell (p := ⟨l, 1, none⟩) hlW (fun x => x)).trans C1.out
                have f2 := (Hf3.out.frozen (p := ⟨l, 1, none⟩) hlW (fun x => x)).trans Z1.out
                go_wp2_with fail
                refine (end_any _ _).mono ?_
                rintro e w9 ⟨rfl, rfl⟩
                go_wp2_with fail
                go_ret
                have hset : Fr (fun k => k = l) w3 (w3.setCell ⟨l, 1, none⟩ (.slice ov3 (os.length + 1) oc3)) := (Fr.refl (fun k => k = l) w3).setCell (p := ⟨l, 1, none⟩) (.inl rfl) _
                have hFW : Fr (fun k => k = l) W0 (w3.setCell ⟨l, 1, none⟩ (.slice ov3 (os.length + 1) oc3)) := (Hf3.out.mono (fun _ x => x.elim)).trans hset (fun k hk => .inl hk)
                have hF1 : Fr (fun k => k = l) w1 (w3.setCell ⟨l, 1, none⟩ (.slice ov3 (os.length + 1) oc3)) := (HfW.out.mono (fun _ x => x.elim)).trans hFW (fun k hk => .inl hk)
                have hwz := HfW.out.size
                have hrow : RowAt 111 DirtR w3 (.slice ov3 (os.length + 1) oc3) (os ++ [((N : Int), (⟨ax, b.length, cx⟩ : SV))]) := RowAt.of_own O3.out (by simp)
                have hnew : ∀ k, (Value.slice ov3 (os.length + 1) oc3).ownBlock = some k → W0.heap.size ≤ k := fun k hk => (O3.out.lt k hk).1
                obtain ⟨hpl, hpp⟩ := HPf.out
                obtain ⟨hR, hSt⟩ := H1.out.setD (dv' := ⟨ov3, os.length + 1, oc3⟩) (ps' := os ++ [((N : Int), (⟨ax, b.length, cx⟩ : SV))]) (dirty' := putD d.dirty N b) hF1
                  (by have := heap_set_eq (i := 1) (u := .slice ov3 (os.length + 1) oc3) (Hf3.out.obj HW.out.box (fun x => x)); simpa [SV.val] using this)
                  (hrow.fr hset (fun k hk e => by have := hnew k hk; omega)) (by rw [HO.out]; exact hpl) (fun k hk => .inr (by have := hnew k hk; omega))
                  (fun j p q h1 h2 => by
                    rw [HO.out] at h2
                    obtain ⟨e1, b1⟩ := hpp j p q h1 h2
                    have b2 := b1.keep hFW (fun k hk => by subst hk; exact HW.out.no_l) (fun _ x => x)
                    exact ⟨e1, b2.row, fun k hk => b2.own k hk⟩) Hgw.out
                exact ⟨_, ret_int (by rw [Hd.out.1]; rfl), by rw [Hd.out.2]; exact ⟨_, _, _, _, _, _, hR⟩, S1.out.trans hSt⟩
      · have hlb' : ((b.length : Int) != (d.size : Int)) = true := by simp; omega
        have Hd := Lib.hid (show d.write n b = d ∧ d.writeE n b.length = 1 by simp [DK.write, DK.writeE, hoff, his, hlb])
        clear hoff his hlb
        go_enter Try.func45, Try.ntmps45
        go_wp2_with fail
        go_ret
        exact ⟨F, ret_int Hd.out.2.symm, by rw [Hd.out.1]; exact H.out, Step.refl _ _⟩
end Go.Proofs.Ytmcckppmciflmaa
