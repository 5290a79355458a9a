/-
  DiskLasts: the walk. What was flushed lasts; what is booted is a beginning of what was written.
-/
import Derived.Test.YtmcckppmciflmaaDkMixed
import Derived.Test.YtmcckppmciflmaaDkArms
namespace Go.Proofs.Ytmcckppmciflmaa
open Go.RowKit

theorem Mine.lefts {w0 w : World} {A B : Thing} {F : Nat → Prop} (b : B.Ok) (h : Mine w0 (Two A B) w F) : ∃ G, A w G ∧ (∀ k, G k → w0.heap.size ≤ k) ∧ ∀ (A' : Thing) (w' : World) (G' : Nat → Prop), A' w' G' → Step G G' w w' → ∃ F', Mine w0 (Two A' B) w' F' := by
  obtain ⟨⟨G, G2, h1, h2, h3, h4⟩, hb, hw⟩ := h
  refine ⟨G, h1, fun k hk => hb k ((h4 k).2 (.inl hk)), fun A' w' G' h' hs => ?_⟩
  obtain ⟨r1, r2⟩ := Two.left b h2 h3 h4 h' hs
  exact ⟨_, Mine.step (A := Two A B) ⟨⟨G, G2, h1, h2, h3, h4⟩, hb, hw⟩ r1 r2⟩
theorem Beside.arg' {w0 w : World} {F : Nat → Prop} {ao : Option Addr} {xs : List Int} (h : RowRd IntR w0 ao xs) (hb : Below w0.heap.size w0 w) (hF : ∀ k, F k → w0.heap.size ≤ k) : Beside ao xs w F :=
  ⟨h.below hb, fun h0 a e => by
    obtain ⟨b, off, e', h1, _⟩ := h.at' 0 h0
    rw [e] at e'
    cases e'
    exact ⟨fun hf => by have h2 : w0.heap.size ≤ b := hF _ hf; omega, Nat.lt_of_lt_of_le h1 hb.size⟩⟩
theorem box5 {w0 w : World} {A : Thing} {b : Nat} {c0 c1 c2 c3 c4 : Value} {T : TypeId} {H : Nat → Prop} (h : Mine w0 (Two A (BoxT b (.cells #[c0, c1, c2, c3, c4] T (0, 0)))) w H) : w.cell? ⟨b, 0, none⟩ = some c0 ∧ w.cell? ⟨b, 1, none⟩ = some c1 ∧ w.cell? ⟨b, 2, none⟩ = some c2 ∧ w.cell? ⟨b, 3, none⟩ = some c3 ∧ w.cell? ⟨b, 4, none⟩ = some c4 := by
  have hb := h.box
  exact ⟨by simpa using cell_of hb 0, by simpa using cell_of hb 1, by simpa using cell_of hb 2, by simpa using cell_of hb 3, by simpa using cell_of hb 4⟩
theorem boxOk {l : Nat} {d : DK} {b : Nat} {o : Obj} : (Two (DiskAt l d) (BoxT b o)).Ok := Two.ok DiskAt.ok BoxT.ok
theorem Mine.lefts_fr {w0 w : World} {A B : Thing} {F : Nat → Prop} (a : A.Ok) (b : B.Ok) (h : Mine w0 (Two A B) w F) : ∃ G, A w G ∧ (∀ k, G k → w0.heap.size ≤ k) ∧ ∀ w', Fr noBlock w w' → A w' G ∧ ∀ (A' : Thing) (w'' : World) (G' : Nat → Prop), A' w'' G' → Step G G' w' w'' → ∃ F', Mine w0 (Two A' B) w'' F' := by
  obtain ⟨⟨G, G2, h1, h2, h3, h4⟩, hb, hw⟩ := h
  refine ⟨G, h1, fun k hk => hb k ((h4 k).2 (.inl hk)), fun w' hf => ⟨a.fr0 h1 hf, fun A' w'' G' h' hs => ?_⟩⟩
  have h2' := b.fr0 h2 hf
  obtain ⟨r1, r2⟩ := Two.left b h2' h3 h4 h' hs
  exact ⟨_, Mine.step (A := Two A B) ⟨⟨G, G2, a.fr0 h1 hf, h2', h3, h4⟩, hb, hw.trans (hf.below hw.size (fun _ x => x.elim))⟩ r1 r2⟩
theorem box_lt {w0 w : World} {A : Thing} {b : Nat} {o : Obj} {H : Nat → Prop} (h : Mine w0 (Two A (BoxT b o)) w H) : b < w.heap.size := heap_lt h.box
theorem strB_ne (a : Bs) : ((strB a).toList != (strB a).toList) = false := by simp

set_option maxRecDepth 100000 in
set_option maxHeartbeats 3200000 in
theorem lasts_walk (sectors : Int) (ao : Option Addr) (cap : Nat) (xs : List DAct) (n : Int) (w : World) (hx : RowRd DActR w ao xs) (hxs : ∀ y ∈ xs, y.Ok w) :
    Calls Try.prog 4 #[.int .i64 sectors, .slice ao xs.length cap, .int .i64 n] w fun e w' => e = .returned (.bool true) ∧ Below w.heap.size w w' := by
  have hl := hx.len
  unfold maxLen at hl
  have Hxs := Lib.hid hxs
  have HX := Lib.hid hx
  obtain ⟨K, hK, hb7⟩ := and_low sectors 7 (by omega)
  have hb7' : bits .and .i64 sectors 7 = (K : Int) := hb7
  obtain ⟨A, hA, hb1⟩ := and_low n 1023 (by omega)
  have hb1' : bits .and .i64 n 1023 = (A : Int) := hb1
  obtain ⟨at', hat⟩ : ∃ at', A % (1 + K) = at' := ⟨_, rfl⟩
  have hatk : at' < 1 + K := by rw [← hat]; exact Nat.mod_lt _ (by omega)
  have hmod : (A : Int) % (1 + (K : Int)) = (at' : Int) := by rw [← hat]; simp
  have hnew : newOk (1 + (K : Int)) 64 = true := by simp [newOk]; omega
  have hmk := fun W => run_make_row' (P := Try.prog) 23 5 (.int .u8 0) 1 Try.underlying23 infoB rfl .i64 .i64 64 (by omega) (by omega) W
  have hmade := fun W => bytes_made W 64 (by unfold maxLen; omega)
  obtain ⟨Z, hZ⟩ : ∃ Z, madeCells #[.int .u8 0] 64 = Z := ⟨_, rfl⟩
  rw [hZ] at hmk hmade
  have hmk' : ∀ W, (Instr.makeSlice 23 (.int .i64 64) (.int .i64 64)).run Try.prog W = .ok (.slice (some ⟨W.heap.size, 0, none⟩) 64 64) (W.alloc (.cells Z 5)) := hmk
  have Hmade := Lib.hid hmade
  have HatK := Lib.hid hatk
  clear hxs hx hb7 hb1 hat hZ hmade hmk
  go_enter Try.func4, Try.ntmps4
  go_wp2_with fail
  refine (small_any _).mono ?_
  rintro e w0 ⟨rfl, f0⟩
  go_wp2_with fail
  refine (new_mine (f0.below (Nat.le_refl _) (fun _ h => h.elim)) (1 + (K : Int)) 64 hnew (show _ = DK.new (1 + K) 64 by rw [show ((1 + (K : Int)).toNat) = 1 + K by omega]; rfl)).mono ?_
  rintro e w1 ⟨l, F1, rfl, hm1⟩
  have M1 := Lib.hid hm1
  have kc := conv_rd (RowAt.rd (Hmade.out w1)) 64
  have kc' : (convert 23 9 (.slice (some ⟨w1.heap.size, 0, none⟩) 64 64)).run Try.prog (w1.alloc (.cells Z 5)) = .ok (.string (strB (List.replicate 64 0))) (w1.alloc (.cells Z 5)) := by simpa using kc
  obtain ⟨z0, hz0⟩ : ∃ z0, List.replicate 64 (0 : UInt8) = z0 := ⟨_, rfl⟩
  have HI := Lib.hid (LI.new (k := 1 + K) (at' := at') (by omega) HatK.out)
  rw [hz0] at HI kc'
  have N1 := Lib.hid (M1.out.fr DiskAt.ok ((Fr.refl _ _).alloc (.cells Z 5)))
  clear hm1 f0 kc hz0 hatk hnew
  go_wp2_with fail
  rw [hmod]
  clear hmk' kc' hb7' hb1' hmod
  go_loopw [12, 13, 14, 15] (fun s12 s13 s14 s15 wr => ∃ (i : Nat) (d : DK) (F : Nat → Prop) (sf fr ot : Bs), i ≤ xs.length ∧ s15 = .int .i64 i ∧ s12 = .string (strB sf) ∧ s13 = .string (strB fr) ∧ s14 = .string (strB ot) ∧ Hid (LI d at' sf fr ot) ∧ Mine w (DiskAt l d) wr F) (fun _ _ _ s15 _ => xs.length - (intOf s15).toNat)
  case atStart => exact ⟨0, _, F1, z0, z0, z0, Nat.zero_le _, rfl, rfl, rfl, rfl, HI, N1.out⟩
  case round =>
    obtain ⟨i, d, F, sf, fr, ot, hi, rfl, rfl, rfl, rfl, HL, hm⟩ := hrel
    have M := Lib.hid hm
    clear hm M1 N1 HI
    by_cases hlt : i < xs.length ∧ i < 100
    · obtain ⟨hlt, h2⟩ := hlt
      have q1 : (i : Int) < (xs.length : Int) := by omega
      have q2 : (i : Int) < 100 := by omega
      obtain ⟨ba, off, rfl, hbb, c0, c1, c2, c3, c4⟩ := dact_cells HX.out hlt
      have Ha := Lib.hid (Hxs.out _ (List.getElem_mem hlt))
      generalize xs[i] = a at *
      have y0 := (M.out.below.cell (p := ⟨ba, off + i * 5, none⟩) hbb).trans c0
      have y1 := (M.out.below.cell (p := ⟨ba, off + i * 5 + 1, none⟩) hbb).trans c1
      have y2 := (M.out.below.cell (p := ⟨ba, off + i * 5 + 2, none⟩) hbb).trans c2
      have y3 := (M.out.below.cell (p := ⟨ba, off + i * 5 + 3, none⟩) hbb).trans c3
      have y4 := (M.out.below.cell (p := ⟨ba, off + i * 5 + 4, none⟩) hbb).trans c4
      have hi' : i + 1 ≤ xs.length := by omega
      have Hbl := Lib.hid (show a.b.length ≤ 9223372036854775807 by have := Ha.out.b.len; unfold maxLen at this; omega)
      have Hkl := Lib.hid (show a.keep.length ≤ 9223372036854775807 by have := Ha.out.keep.len; unfold maxLen at this; omega)
      obtain ⟨H0, hT0⟩ := M.out.withBox DiskAt.ok (.cells #[.int .i64 a.op, .int .i64 a.n, .int .i64 a.m, .slice a.bo a.b.length a.bc, .slice a.ko a.keep.length a.kc] 31 (0, 0))
      obtain ⟨z0', z1', z2', z3', z4'⟩ := box5 hT0
      have HT := Lib.hid hT0
      obtain ⟨Gu, hAu, _⟩ := hT0.left BoxT.ok
      have Hup := Lib.hid (up_any hAu)
      clear c0 c1 c2 c3 c4 hT0 hlt hbb hAu
      obtain ⟨wo, hwo⟩ : ∃ wo : World, wo = wr := ⟨_, rfl⟩
      subst hwo
      obtain ⟨op, hop⟩ : ∃ op, a.op = op := ⟨_, rfl⟩
      rw [hop] at y0 z0' z1' z2' z3' z4' HT Hup
      clear hop
      cases hb0 : (op == 0) with
      | true =>
        by_cases hna : a.n = at'
        · have hE3 := HL.out.write_here (b := fillB a.b 64) (fillB_len _ _)
          rw [← hna] at hE3
          have hnb : (a.n == (at' : Int)) = true := by simpa using hna
          rcases hE3 with ⟨hE, lw⟩ | ⟨hE, ho', lw⟩ | ⟨hE, ho', lw⟩
          · have L3 := Lib.hid lw
            clear lw hna
            obtain ⟨G3, hA3, hG3, stf⟩ := HT.out.lefts_fr DiskAt.ok BoxT.ok
            have HG3 := Lib.hid (DiskAt.ok.lt hA3)

            go_wp2_with fail
            refine Hup.out.mono ?_
            rintro e w2 ⟨rfl, rfl⟩
            clear Hup

            go_wp2_with fail
            refine (fill64 (RowRd.below (w := w) Ha.out.b HT.out.below) a.bc Hbl.out).mono ?_
            rintro e w3 ⟨s3, rfl, hl3, hr3, hf3, hn3⟩
            have T3 := Lib.hid (HT.out.fr boxOk hf3)
            have O3 := Lib.hid (Own.new (F := G3) hr3 hl3 hn3 HG3.out)
            obtain ⟨u0, u1, u2, u3, u4⟩ := box5 T3.out
            obtain ⟨hA4, st4⟩ := stf w3 hf3
            have Hst4 := Lib.hid st4
            have HA4 := Lib.hid hA4
            clear hl3 hr3 hn3 hf3 u0 u2 u3 u4 z0' z1' z2' z3' z4' y0 y1 y2 y3 y4 hA3 hG3 stf st4 hA4
            go_wp2_with fail
            refine (write_own HA4.out a.n O3.out (by rw [fillB_len]; omega)).mono ?_
            rintro e w5 ⟨F5, rfl, h5, t5⟩
            obtain ⟨H5, m5⟩ := Hst4.out (DiskAt l (d.write a.n (fillB a.b 64))) _ _ h5 t5
            have T5 := Lib.hid m5
            have O5 := Lib.hid (O3.out.step t5)
            obtain ⟨_, x1, _, _, _⟩ := box5 m5
            have k5 := conv_rd O5.out.rd s3.cap
            rw [O5.out.val]
            clear h5 t5 m5 u1

            rw [hE]
            clear hE
            go_wp2_with fail
            all_goals
              obtain ⟨G9, hA9, _, _⟩ := T5.out.lefts BoxT.ok
              refine (read_any hA9 at').mono ?_
              rintro e w9 ⟨s9, rfl, hl9, hr9, hf9, hn9⟩
              obtain ⟨F9, m9⟩ := (T5.out.fr boxOk hf9).fst
              have M9 := Lib.hid m9
              cases hof : (d.write a.n (fillB a.b 64)).off with
              | false =>
                obtain ⟨er, eb⟩ := L3.out.read.1 hof
                rw [eb] at hl9 hr9
                rw [er]
                have O9 := Own.new (F := G9) hr9 hl9 hn9 (DiskAt.ok.lt hA9)
                have k9 := conv_rd O9.rd s9.cap
                have kn := strB_ne (fillB a.b 64)
                rw [O9.val]
                clear hl9 hr9 hn9 O9 hA9 hf9 er eb m9 hof
                go_wp2_with fail
                go_roundw
                case rel => exact ⟨i + 1, _, F9, sf, (fillB a.b 64), (fillB a.b 64), hi', by go_num, rfl, rfl, rfl, L3, M9.out⟩
                case measure => simp [intOf]; omega
              | true =>
                have er := L3.out.read.2 hof
                rw [er]
                clear hl9 hr9 hn9 hA9 hf9 er m9 hof
                go_wp2_with fail
                go_roundw
                case rel => exact ⟨i + 1, _, F9, sf, (fillB a.b 64), (fillB a.b 64), hi', by go_num, rfl, rfl, rfl, L3, M9.out⟩
                case measure => simp [intOf]; omega
          · have L3 := Lib.hid lw
            clear lw hna
            obtain ⟨G3, hA3, hG3, stf⟩ := HT.out.lefts_fr DiskAt.ok BoxT.ok
            have HG3 := Lib.hid (DiskAt.ok.lt hA3)

            go_wp2_with fail
            refine Hup.out.mono ?_
            rintro e w2 ⟨rfl, rfl⟩
            rw [ho']
            clear Hup

            go_wp2_with fail
            refine (fill64 (RowRd.below (w := w) Ha.out.b HT.out.below) a.bc Hbl.out).mono ?_
            rintro e w3 ⟨s3, rfl, hl3, hr3, hf3, hn3⟩
            have T3 := Lib.hid (HT.out.fr boxOk hf3)
            have O3 := Lib.hid (Own.new (F := G3) hr3 hl3 hn3 HG3.out)
            obtain ⟨u0, u1, u2, u3, u4⟩ := box5 T3.out
            obtain ⟨hA4, st4⟩ := stf w3 hf3
            have Hst4 := Lib.hid st4
            have HA4 := Lib.hid hA4
            clear hl3 hr3 hn3 hf3 u0 u2 u3 u4 z0' z1' z2' z3' z4' y0 y1 y2 y3 y4 hA3 hG3 stf st4 hA4
            go_wp2_with fail
            refine (write_own HA4.out a.n O3.out (by rw [fillB_len]; omega)).mono ?_
            rintro e w5 ⟨F5, rfl, h5, t5⟩
            obtain ⟨H5, m5⟩ := Hst4.out (DiskAt l (d.write a.n (fillB a.b 64))) _ _ h5 t5
            have T5 := Lib.hid m5
            have O5 := Lib.hid (O3.out.step t5)
            obtain ⟨_, x1, _, _, _⟩ := box5 m5
            have k5 := conv_rd O5.out.rd s3.cap
            rw [O5.out.val]
            clear h5 t5 m5 u1

            rw [hE]
            clear hE
            go_wp2_with fail
            obtain ⟨G9, hA9, _, _⟩ := T5.out.lefts BoxT.ok
            refine (read_any hA9 at').mono ?_
            rintro e w9 ⟨s9, rfl, hl9, hr9, hf9, hn9⟩
            obtain ⟨F9, m9⟩ := (T5.out.fr boxOk hf9).fst
            have M9 := Lib.hid m9
            cases hof : (d.write a.n (fillB a.b 64)).off with
            | false =>
              obtain ⟨er, eb⟩ := L3.out.read.1 hof
              rw [eb] at hl9 hr9
              rw [er]
              have O9 := Own.new (F := G9) hr9 hl9 hn9 (DiskAt.ok.lt hA9)
              have k9 := conv_rd O9.rd s9.cap
              have kn := strB_ne fr
              rw [O9.val]
              clear hl9 hr9 hn9 O9 hA9 hf9 er eb m9 hof
              go_wp2_with fail
              go_roundw
              case rel => exact ⟨i + 1, _, F9, sf, fr, (fillB a.b 64), hi', by go_num, rfl, rfl, rfl, L3, M9.out⟩
              case measure => simp [intOf]; omega
            | true =>
              have er := L3.out.read.2 hof
              rw [er]
              clear hl9 hr9 hn9 hA9 hf9 er m9 hof
              go_wp2_with fail
              go_roundw
              case rel => exact ⟨i + 1, _, F9, sf, fr, (fillB a.b 64), hi', by go_num, rfl, rfl, rfl, L3, M9.out⟩
              case measure => simp [intOf]; omega
          · have L3 := Lib.hid lw
            clear lw hna
            obtain ⟨G3, hA3, hG3, stf⟩ := HT.out.lefts_fr DiskAt.ok BoxT.ok
            have HG3 := Lib.hid (DiskAt.ok.lt hA3)

            go_wp2_with fail
            refine Hup.out.mono ?_
            rintro e w2 ⟨rfl, rfl⟩
            rw [ho']
            clear Hup

            go_wp2_with fail
            refine (fill64 (RowRd.below (w := w) Ha.out.b HT.out.below) a.bc Hbl.out).mono ?_
            rintro e w3 ⟨s3, rfl, hl3, hr3, hf3, hn3⟩
            have T3 := Lib.hid (HT.out.fr boxOk hf3)
            have O3 := Lib.hid (Own.new (F := G3) hr3 hl3 hn3 HG3.out)
            obtain ⟨u0, u1, u2, u3, u4⟩ := box5 T3.out
            obtain ⟨hA4, st4⟩ := stf w3 hf3
            have Hst4 := Lib.hid st4
            have HA4 := Lib.hid hA4
            clear hl3 hr3 hn3 hf3 u0 u2 u3 u4 z0' z1' z2' z3' z4' y0 y1 y2 y3 y4 hA3 hG3 stf st4 hA4
            go_wp2_with fail
            refine (write_own HA4.out a.n O3.out (by rw [fillB_len]; omega)).mono ?_
            rintro e w5 ⟨F5, rfl, h5, t5⟩
            obtain ⟨H5, m5⟩ := Hst4.out (DiskAt l (d.write a.n (fillB a.b 64))) _ _ h5 t5
            have T5 := Lib.hid m5
            have O5 := Lib.hid (O3.out.step t5)
            obtain ⟨_, x1, _, _, _⟩ := box5 m5
            have k5 := conv_rd O5.out.rd s3.cap
            rw [O5.out.val]
            clear h5 t5 m5 u1

            rw [hE]
            clear hE
            go_wp2_with fail
            obtain ⟨G9, hA9, _, _⟩ := T5.out.lefts BoxT.ok
            refine (read_any hA9 at').mono ?_
            rintro e w9 ⟨s9, rfl, hl9, hr9, hf9, hn9⟩
            obtain ⟨F9, m9⟩ := (T5.out.fr boxOk hf9).fst
            have M9 := Lib.hid m9
            cases hof : (d.write a.n (fillB a.b 64)).off with
            | false =>
              obtain ⟨er, eb⟩ := L3.out.read.1 hof
              rw [eb] at hl9 hr9
              rw [er]
              have O9 := Own.new (F := G9) hr9 hl9 hn9 (DiskAt.ok.lt hA9)
              have k9 := conv_rd O9.rd s9.cap
              have kn := strB_ne fr
              rw [O9.val]
              clear hl9 hr9 hn9 O9 hA9 hf9 er eb m9 hof
              go_wp2_with fail
              go_roundw
              case rel => exact ⟨i + 1, _, F9, sf, fr, ot, hi', by go_num, rfl, rfl, rfl, L3, M9.out⟩
              case measure => simp [intOf]; omega
            | true =>
              have er := L3.out.read.2 hof
              rw [er]
              clear hl9 hr9 hn9 hA9 hf9 er m9 hof
              go_wp2_with fail
              go_roundw
              case rel => exact ⟨i + 1, _, F9, sf, fr, ot, hi', by go_num, rfl, rfl, rfl, L3, M9.out⟩
              case measure => simp [intOf]; omega
        · have L3 := Lib.hid (HL.out.write_other hna (fillB a.b 64))
          have hnb : (a.n == (at' : Int)) = false := by simpa using hna
          obtain ⟨E, hE⟩ : ∃ E, d.writeE a.n (fillB a.b 64).length = E := ⟨_, rfl⟩
          clear hna
          obtain ⟨G3, hA3, hG3, stf⟩ := HT.out.lefts_fr DiskAt.ok BoxT.ok
          have HG3 := Lib.hid (DiskAt.ok.lt hA3)

          go_wp2_with fail
          refine Hup.out.mono ?_
          rintro e w2 ⟨rfl, rfl⟩
          clear Hup

          go_wp2_with fail
          refine (fill64 (RowRd.below (w := w) Ha.out.b HT.out.below) a.bc Hbl.out).mono ?_
          rintro e w3 ⟨s3, rfl, hl3, hr3, hf3, hn3⟩
          have T3 := Lib.hid (HT.out.fr boxOk hf3)
          have O3 := Lib.hid (Own.new (F := G3) hr3 hl3 hn3 HG3.out)
          obtain ⟨u0, u1, u2, u3, u4⟩ := box5 T3.out
          obtain ⟨hA4, st4⟩ := stf w3 hf3
          have Hst4 := Lib.hid st4
          have HA4 := Lib.hid hA4
          clear hl3 hr3 hn3 hf3 u0 u2 u3 u4 z0' z1' z2' z3' z4' y0 y1 y2 y3 y4 hA3 hG3 stf st4 hA4
          go_wp2_with fail
          refine (write_own HA4.out a.n O3.out (by rw [fillB_len]; omega)).mono ?_
          rintro e w5 ⟨F5, rfl, h5, t5⟩
          obtain ⟨H5, m5⟩ := Hst4.out (DiskAt l (d.write a.n (fillB a.b 64))) _ _ h5 t5
          have T5 := Lib.hid m5
          have O5 := Lib.hid (O3.out.step t5)
          obtain ⟨_, x1, _, _, _⟩ := box5 m5
          have k5 := conv_rd O5.out.rd s3.cap
          rw [O5.out.val]
          clear h5 t5 m5 u1

          rw [hE]
          clear hE
          go_wp2_with fail
          obtain ⟨G9, hA9, _, _⟩ := T5.out.lefts BoxT.ok
          refine (read_any hA9 at').mono ?_
          rintro e w9 ⟨s9, rfl, hl9, hr9, hf9, hn9⟩
          obtain ⟨F9, m9⟩ := (T5.out.fr boxOk hf9).fst
          have M9 := Lib.hid m9
          cases hof : (d.write a.n (fillB a.b 64)).off with
          | false =>
            obtain ⟨er, eb⟩ := L3.out.read.1 hof
            rw [eb] at hl9 hr9
            rw [er]
            have O9 := Own.new (F := G9) hr9 hl9 hn9 (DiskAt.ok.lt hA9)
            have k9 := conv_rd O9.rd s9.cap
            have kn := strB_ne fr
            rw [O9.val]
            clear hl9 hr9 hn9 O9 hA9 hf9 er eb m9 hof
            go_wp2_with fail
            go_roundw
            case rel => exact ⟨i + 1, _, F9, sf, fr, ot, hi', by go_num, rfl, rfl, rfl, L3, M9.out⟩
            case measure => simp [intOf]; omega
          | true =>
            have er := L3.out.read.2 hof
            rw [er]
            clear hl9 hr9 hn9 hA9 hf9 er m9 hof
            go_wp2_with fail
            go_roundw
            case rel => exact ⟨i + 1, _, F9, sf, fr, ot, hi', by go_num, rfl, rfl, rfl, L3, M9.out⟩
            case measure => simp [intOf]; omega
      | false =>
        cases hb1 : (op == 1) with
        | true =>
          by_cases hna : a.n = at'
          · have hE3 := HL.out.write_here (b := fillB a.b 64) (fillB_len _ _)
            rw [← hna] at hE3
            have hnb : (a.n == (at' : Int)) = true := by simpa using hna
            rcases hE3 with ⟨hE, lw⟩ | ⟨hE, ho', lw⟩ | ⟨hE, ho', lw⟩
            · have L3 := Lib.hid lw
              clear lw hna
              obtain ⟨G3, hA3, hG3, stf⟩ := HT.out.lefts_fr DiskAt.ok BoxT.ok
              have HG3 := Lib.hid (DiskAt.ok.lt hA3)

              go_wp2_with fail
              refine Hup.out.mono ?_
              rintro e w2 ⟨rfl, rfl⟩
              clear Hup

              go_wp2_with fail
              refine (fill64 (RowRd.below (w := w) Ha.out.b HT.out.below) a.bc Hbl.out).mono ?_
              rintro e w3 ⟨s3, rfl, hl3, hr3, hf3, hn3⟩
              have T3 := Lib.hid (HT.out.fr boxOk hf3)
              have O3 := Lib.hid (Own.new (F := G3) hr3 hl3 hn3 HG3.out)
              obtain ⟨u0, u1, u2, u3, u4⟩ := box5 T3.out
              obtain ⟨hA4, st4⟩ := stf w3 hf3
              have Hst4 := Lib.hid st4
              have HA4 := Lib.hid hA4
              clear hl3 hr3 hn3 hf3 u0 u2 u3 u4 z0' z1' z2' z3' z4' y0 y1 y2 y3 y4 hA3 hG3 stf st4 hA4
              go_wp2_with fail
              refine (write_own HA4.out a.n O3.out (by rw [fillB_len]; omega)).mono ?_
              rintro e w5 ⟨F5, rfl, h5, t5⟩
              obtain ⟨H5, m5⟩ := Hst4.out (DiskAt l (d.write a.n (fillB a.b 64))) _ _ h5 t5
              have T5 := Lib.hid m5
              have O5 := Lib.hid (O3.out.step t5)
              obtain ⟨_, x1, _, _, _⟩ := box5 m5
              have k5 := conv_rd O5.out.rd s3.cap
              rw [O5.out.val]
              clear h5 t5 m5 u1

              rw [hE]
              clear hE
              go_wp2_with fail
              all_goals
                obtain ⟨G9, hA9, _, _⟩ := T5.out.lefts BoxT.ok
                refine (read_any hA9 at').mono ?_
                rintro e w9 ⟨s9, rfl, hl9, hr9, hf9, hn9⟩
                obtain ⟨F9, m9⟩ := (T5.out.fr boxOk hf9).fst
                have M9 := Lib.hid m9
                cases hof : (d.write a.n (fillB a.b 64)).off with
                | false =>
                  obtain ⟨er, eb⟩ := L3.out.read.1 hof
                  rw [eb] at hl9 hr9
                  rw [er]
                  have O9 := Own.new (F := G9) hr9 hl9 hn9 (DiskAt.ok.lt hA9)
                  have k9 := conv_rd O9.rd s9.cap
                  have kn := strB_ne (fillB a.b 64)
                  rw [O9.val]
                  clear hl9 hr9 hn9 O9 hA9 hf9 er eb m9 hof
                  go_wp2_with fail
                  go_roundw
                  case rel => exact ⟨i + 1, _, F9, sf, (fillB a.b 64), (fillB a.b 64), hi', by go_num, rfl, rfl, rfl, L3, M9.out⟩
                  case measure => simp [intOf]; omega
                | true =>
                  have er := L3.out.read.2 hof
                  rw [er]
                  clear hl9 hr9 hn9 hA9 hf9 er m9 hof
                  go_wp2_with fail
                  go_roundw
                  case rel => exact ⟨i + 1, _, F9, sf, (fillB a.b 64), (fillB a.b 64), hi', by go_num, rfl, rfl, rfl, L3, M9.out⟩
                  case measure => simp [intOf]; omega
            · have L3 := Lib.hid lw
              clear lw hna
              obtain ⟨G3, hA3, hG3, stf⟩ := HT.out.lefts_fr DiskAt.ok BoxT.ok
              have HG3 := Lib.hid (DiskAt.ok.lt hA3)

              go_wp2_with fail
              refine Hup.out.mono ?_
              rintro e w2 ⟨rfl, rfl⟩
              rw [ho']
              clear Hup

              go_wp2_with fail
              refine (fill64 (RowRd.below (w := w) Ha.out.b HT.out.below) a.bc Hbl.out).mono ?_
              rintro e w3 ⟨s3, rfl, hl3, hr3, hf3, hn3⟩
              have T3 := Lib.hid (HT.out.fr boxOk hf3)
              have O3 := Lib.hid (Own.new (F := G3) hr3 hl3 hn3 HG3.out)
              obtain ⟨u0, u1, u2, u3, u4⟩ := box5 T3.out
              obtain ⟨hA4, st4⟩ := stf w3 hf3
              have Hst4 := Lib.hid st4
              have HA4 := Lib.hid hA4
              clear hl3 hr3 hn3 hf3 u0 u2 u3 u4 z0' z1' z2' z3' z4' y0 y1 y2 y3 y4 hA3 hG3 stf st4 hA4
              go_wp2_with fail
              refine (write_own HA4.out a.n O3.out (by rw [fillB_len]; omega)).mono ?_
              rintro e w5 ⟨F5, rfl, h5, t5⟩
              obtain ⟨H5, m5⟩ := Hst4.out (DiskAt l (d.write a.n (fillB a.b 64))) _ _ h5 t5
              have T5 := Lib.hid m5
              have O5 := Lib.hid (O3.out.step t5)
              obtain ⟨_, x1, _, _, _⟩ := box5 m5
              have k5 := conv_rd O5.out.rd s3.cap
              rw [O5.out.val]
              clear h5 t5 m5 u1

              rw [hE]
              clear hE
              go_wp2_with fail
              obtain ⟨G9, hA9, _, _⟩ := T5.out.lefts BoxT.ok
              refine (read_any hA9 at').mono ?_
              rintro e w9 ⟨s9, rfl, hl9, hr9, hf9, hn9⟩
              obtain ⟨F9, m9⟩ := (T5.out.fr boxOk hf9).fst
              have M9 := Lib.hid m9
              cases hof : (d.write a.n (fillB a.b 64)).off with
              | false =>
                obtain ⟨er, eb⟩ := L3.out.read.1 hof
                rw [eb] at hl9 hr9
                rw [er]
                have O9 := Own.new (F := G9) hr9 hl9 hn9 (DiskAt.ok.lt hA9)
                have k9 := conv_rd O9.rd s9.cap
                have kn := strB_ne fr
                rw [O9.val]
                clear hl9 hr9 hn9 O9 hA9 hf9 er eb m9 hof
                go_wp2_with fail
                go_roundw
                case rel => exact ⟨i + 1, _, F9, sf, fr, (fillB a.b 64), hi', by go_num, rfl, rfl, rfl, L3, M9.out⟩
                case measure => simp [intOf]; omega
              | true =>
                have er := L3.out.read.2 hof
                rw [er]
                clear hl9 hr9 hn9 hA9 hf9 er m9 hof
                go_wp2_with fail
                go_roundw
                case rel => exact ⟨i + 1, _, F9, sf, fr, (fillB a.b 64), hi', by go_num, rfl, rfl, rfl, L3, M9.out⟩
                case measure => simp [intOf]; omega
            · have L3 := Lib.hid lw
              clear lw hna
              obtain ⟨G3, hA3, hG3, stf⟩ := HT.out.lefts_fr DiskAt.ok BoxT.ok
              have HG3 := Lib.hid (DiskAt.ok.lt hA3)

              go_wp2_with fail
              refine Hup.out.mono ?_
              rintro e w2 ⟨rfl, rfl⟩
              rw [ho']
              clear Hup

              go_wp2_with fail
              refine (fill64 (RowRd.below (w := w) Ha.out.b HT.out.below) a.bc Hbl.out).mono ?_
              rintro e w3 ⟨s3, rfl, hl3, hr3, hf3, hn3⟩
              have T3 := Lib.hid (HT.out.fr boxOk hf3)
              have O3 := Lib.hid (Own.new (F := G3) hr3 hl3 hn3 HG3.out)
              obtain ⟨u0, u1, u2, u3, u4⟩ := box5 T3.out
              obtain ⟨hA4, st4⟩ := stf w3 hf3
              have Hst4 := Lib.hid st4
              have HA4 := Lib.hid hA4
              clear hl3 hr3 hn3 hf3 u0 u2 u3 u4 z0' z1' z2' z3' z4' y0 y1 y2 y3 y4 hA3 hG3 stf st4 hA4
              go_wp2_with fail
              refine (write_own HA4.out a.n O3.out (by rw [fillB_len]; omega)).mono ?_
              rintro e w5 ⟨F5, rfl, h5, t5⟩
              obtain ⟨H5, m5⟩ := Hst4.out (DiskAt l (d.write a.n (fillB a.b 64))) _ _ h5 t5
              have T5 := Lib.hid m5
              have O5 := Lib.hid (O3.out.step t5)
              obtain ⟨_, x1, _, _, _⟩ := box5 m5
              have k5 := conv_rd O5.out.rd s3.cap
              rw [O5.out.val]
              clear h5 t5 m5 u1

              rw [hE]
              clear hE
              go_wp2_with fail
              obtain ⟨G9, hA9, _, _⟩ := T5.out.lefts BoxT.ok
              refine (read_any hA9 at').mono ?_
              rintro e w9 ⟨s9, rfl, hl9, hr9, hf9, hn9⟩
              obtain ⟨F9, m9⟩ := (T5.out.fr boxOk hf9).fst
              have M9 := Lib.hid m9
              cases hof : (d.write a.n (fillB a.b 64)).off with
              | false =>
                obtain ⟨er, eb⟩ := L3.out.read.1 hof
                rw [eb] at hl9 hr9
                rw [er]
                have O9 := Own.new (F := G9) hr9 hl9 hn9 (DiskAt.ok.lt hA9)
                have k9 := conv_rd O9.rd s9.cap
                have kn := strB_ne fr
                rw [O9.val]
                clear hl9 hr9 hn9 O9 hA9 hf9 er eb m9 hof
                go_wp2_with fail
                go_roundw
                case rel => exact ⟨i + 1, _, F9, sf, fr, ot, hi', by go_num, rfl, rfl, rfl, L3, M9.out⟩
                case measure => simp [intOf]; omega
              | true =>
                have er := L3.out.read.2 hof
                rw [er]
                clear hl9 hr9 hn9 hA9 hf9 er m9 hof
                go_wp2_with fail
                go_roundw
                case rel => exact ⟨i + 1, _, F9, sf, fr, ot, hi', by go_num, rfl, rfl, rfl, L3, M9.out⟩
                case measure => simp [intOf]; omega
          · have L3 := Lib.hid (HL.out.write_other hna (fillB a.b 64))
            have hnb : (a.n == (at' : Int)) = false := by simpa using hna
            obtain ⟨E, hE⟩ : ∃ E, d.writeE a.n (fillB a.b 64).length = E := ⟨_, rfl⟩
            clear hna
            obtain ⟨G3, hA3, hG3, stf⟩ := HT.out.lefts_fr DiskAt.ok BoxT.ok
            have HG3 := Lib.hid (DiskAt.ok.lt hA3)

            go_wp2_with fail
            refine Hup.out.mono ?_
            rintro e w2 ⟨rfl, rfl⟩
            clear Hup

            go_wp2_with fail
            refine (fill64 (RowRd.below (w := w) Ha.out.b HT.out.below) a.bc Hbl.out).mono ?_
            rintro e w3 ⟨s3, rfl, hl3, hr3, hf3, hn3⟩
            have T3 := Lib.hid (HT.out.fr boxOk hf3)
            have O3 := Lib.hid (Own.new (F := G3) hr3 hl3 hn3 HG3.out)
            obtain ⟨u0, u1, u2, u3, u4⟩ := box5 T3.out
            obtain ⟨hA4, st4⟩ := stf w3 hf3
            have Hst4 := Lib.hid st4
            have HA4 := Lib.hid hA4
            clear hl3 hr3 hn3 hf3 u0 u2 u3 u4 z0' z1' z2' z3' z4' y0 y1 y2 y3 y4 hA3 hG3 stf st4 hA4
            go_wp2_with fail
            refine (write_own HA4.out a.n O3.out (by rw [fillB_len]; omega)).mono ?_
            rintro e w5 ⟨F5, rfl, h5, t5⟩
            obtain ⟨H5, m5⟩ := Hst4.out (DiskAt l (d.write a.n (fillB a.b 64))) _ _ h5 t5
            have T5 := Lib.hid m5
            have O5 := Lib.hid (O3.out.step t5)
            obtain ⟨_, x1, _, _, _⟩ := box5 m5
            have k5 := conv_rd O5.out.rd s3.cap
            rw [O5.out.val]
            clear h5 t5 m5 u1

            rw [hE]
            clear hE
            go_wp2_with fail
            obtain ⟨G9, hA9, _, _⟩ := T5.out.lefts BoxT.ok
            refine (read_any hA9 at').mono ?_
            rintro e w9 ⟨s9, rfl, hl9, hr9, hf9, hn9⟩
            obtain ⟨F9, m9⟩ := (T5.out.fr boxOk hf9).fst
            have M9 := Lib.hid m9
            cases hof : (d.write a.n (fillB a.b 64)).off with
            | false =>
              obtain ⟨er, eb⟩ := L3.out.read.1 hof
              rw [eb] at hl9 hr9
              rw [er]
              have O9 := Own.new (F := G9) hr9 hl9 hn9 (DiskAt.ok.lt hA9)
              have k9 := conv_rd O9.rd s9.cap
              have kn := strB_ne fr
              rw [O9.val]
              clear hl9 hr9 hn9 O9 hA9 hf9 er eb m9 hof
              go_wp2_with fail
              go_roundw
              case rel => exact ⟨i + 1, _, F9, sf, fr, ot, hi', by go_num, rfl, rfl, rfl, L3, M9.out⟩
              case measure => simp [intOf]; omega
            | true =>
              have er := L3.out.read.2 hof
              rw [er]
              clear hl9 hr9 hn9 hA9 hf9 er m9 hof
              go_wp2_with fail
              go_roundw
              case rel => exact ⟨i + 1, _, F9, sf, fr, ot, hi', by go_num, rfl, rfl, rfl, L3, M9.out⟩
              case measure => simp [intOf]; omega
        | false =>
          cases hb2 : (op == 2) with
          | true => as_aux_lemma =>
            go_wp2_with fail
            refine Hup.out.mono ?_
            rintro e w2 ⟨rfl, rfl⟩
            clear Hup

            go_wp2_with fail
            obtain ⟨G3, hA3, _, st3⟩ := HT.out.lefts BoxT.ok
            refine (flush_any hA3).mono ?_
            rintro e w3 ⟨F3, rfl, h3, t3⟩
            obtain ⟨H3, m3⟩ := st3 (DiskAt l d.flush) _ _ h3 t3
            have T3 := Lib.hid m3
            clear h3 t3 m3 st3 hA3 z0' z1' z2' z3' z4' y0 y1 y2 y3 y4
            rcases HL.out.flush with ⟨ef, lf⟩ | ⟨ef, lf⟩
            · rw [ef]
              have L3 := Lib.hid lf
              clear ef lf
              go_wp2_with fail
              obtain ⟨G9, hA9, _, _⟩ := T3.out.lefts BoxT.ok
              refine (read_any hA9 at').mono ?_
              rintro e w9 ⟨s9, rfl, hl9, hr9, hf9, hn9⟩
              obtain ⟨F9, m9⟩ := (T3.out.fr boxOk hf9).fst
              have M9 := Lib.hid m9
              cases hof : (d.flush).off with
              | false =>
                obtain ⟨er, eb⟩ := L3.out.read.1 hof
                rw [eb] at hl9 hr9
                rw [er]
                have O9 := Own.new (F := G9) hr9 hl9 hn9 (DiskAt.ok.lt hA9)
                have k9 := conv_rd O9.rd s9.cap
                have kn := strB_ne fr
                rw [O9.val]
                clear hl9 hr9 hn9 O9 hA9 hf9 er eb m9 hof
                go_wp2_with fail
                go_roundw
                case rel => exact ⟨i + 1, _, F9, fr, fr, ot, hi', by go_num, rfl, rfl, rfl, L3, M9.out⟩
                case measure => simp [intOf]; omega
              | true =>
                have er := L3.out.read.2 hof
                rw [er]
                clear hl9 hr9 hn9 hA9 hf9 er m9 hof
                go_wp2_with fail
                go_roundw
                case rel => exact ⟨i + 1, _, F9, fr, fr, ot, hi', by go_num, rfl, rfl, rfl, L3, M9.out⟩
                case measure => simp [intOf]; omega
            · rw [ef]
              have L3 := Lib.hid lf
              clear ef lf
              go_wp2_with fail
              obtain ⟨G9, hA9, _, _⟩ := T3.out.lefts BoxT.ok
              refine (read_any hA9 at').mono ?_
              rintro e w9 ⟨s9, rfl, hl9, hr9, hf9, hn9⟩
              obtain ⟨F9, m9⟩ := (T3.out.fr boxOk hf9).fst
              have M9 := Lib.hid m9
              cases hof : (d.flush).off with
              | false =>
                obtain ⟨er, eb⟩ := L3.out.read.1 hof
                rw [eb] at hl9 hr9
                rw [er]
                have O9 := Own.new (F := G9) hr9 hl9 hn9 (DiskAt.ok.lt hA9)
                have k9 := conv_rd O9.rd s9.cap
                have kn := strB_ne fr
                rw [O9.val]
                clear hl9 hr9 hn9 O9 hA9 hf9 er eb m9 hof
                go_wp2_with fail
                go_roundw
                case rel => exact ⟨i + 1, _, F9, sf, fr, ot, hi', by go_num, rfl, rfl, rfl, L3, M9.out⟩
                case measure => simp [intOf]; omega
              | true =>
                have er := L3.out.read.2 hof
                rw [er]
                clear hl9 hr9 hn9 hA9 hf9 er m9 hof
                go_wp2_with fail
                go_roundw
                case rel => exact ⟨i + 1, _, F9, sf, fr, ot, hi', by go_num, rfl, rfl, rfl, L3, M9.out⟩
                case measure => simp [intOf]; omega
          | false =>
            cases hb4 : (op == 4) with
            | true => as_aux_lemma =>
              go_wp2_with fail
              refine Hup.out.mono ?_
              rintro e w2 ⟨rfl, rfl⟩
              clear Hup

              go_wp2_with fail
              have hIn : (_ ∧ _) := Ha.out.n
              have hIm : (_ ∧ _) := Ha.out.m
              have HIn := Lib.hid hIn.2
              have HIm := Lib.hid hIm
              clear hIn hIm
              have hS0 := And.intro z1' z2'
              have HS0 := Lib.hid hS0
              clear z0' z1' z2' z3' z4' y0 y1 y2 y3 y4 hS0
              go_region_held3 (fun W => W.cell? ⟨wo.heap.size, 1, none⟩ = some (.int .i64 a.n) ∧ W.cell? ⟨wo.heap.size, 2, none⟩ = some (.int .i64 a.m))
                (first | exact HS0.out | exact hS1)
                ((go_at_call 18; obtain ⟨G3, hA3, _, st3⟩ := (HT.out.fr boxOk ((Fr.refl _ _).drew)).lefts BoxT.ok; (with_reducible refine (arm_any hA3 a.n a.m HIn.out HIm.out.1 HIm.out.2).mono ?_); rintro e w3 ⟨rfl, h3, t3⟩; obtain ⟨H3, m3⟩ := st3 (DiskAt l (d.armed a.n a.m)) _ _ h3 t3; have hS1 := And.intro (box5 m3).2.1 (box5 m3).2.2.1))
              have T3 := Lib.hid m3
              have L3 := Lib.hid (HL.out.arm HIn.out HIm.out.1 HIm.out.2)
              clear h3 t3 m3 st3 hA3 hS1
              go_wp2_with fail

              obtain ⟨G9, hA9, _, _⟩ := T3.out.lefts BoxT.ok
              refine (read_any hA9 at').mono ?_
              rintro e w9 ⟨s9, rfl, hl9, hr9, hf9, hn9⟩
              obtain ⟨F9, m9⟩ := (T3.out.fr boxOk hf9).fst
              have M9 := Lib.hid m9
              cases hof : (d.armed a.n a.m).off with
              | false =>
                obtain ⟨er, eb⟩ := L3.out.read.1 hof
                rw [eb] at hl9 hr9
                rw [er]
                have O9 := Own.new (F := G9) hr9 hl9 hn9 (DiskAt.ok.lt hA9)
                have k9 := conv_rd O9.rd s9.cap
                have kn := strB_ne fr
                rw [O9.val]
                clear hl9 hr9 hn9 O9 hA9 hf9 er eb m9 hof
                go_wp2_with fail
                go_roundw
                case rel => exact ⟨i + 1, _, F9, sf, fr, ot, hi', by go_num, rfl, rfl, rfl, L3, M9.out⟩
                case measure => simp [intOf]; omega
              | true =>
                have er := L3.out.read.2 hof
                rw [er]
                clear hl9 hr9 hn9 hA9 hf9 er m9 hof
                go_wp2_with fail
                go_roundw
                case rel => exact ⟨i + 1, _, F9, sf, fr, ot, hi', by go_num, rfl, rfl, rfl, L3, M9.out⟩
                case measure => simp [intOf]; omega
            | false =>
              cases hb5 : (op == 5) with
              | true => as_aux_lemma =>
                go_wp2_with fail
                refine Hup.out.mono ?_
                rintro e w2 ⟨rfl, rfl⟩
                clear Hup

                go_wp2_with fail
                obtain ⟨G3, hA3, hG3, st3⟩ := HT.out.lefts BoxT.ok
                refine (boot_any hA3 (Beside.arg' (w0 := w) Ha.out.keep HT.out.below hG3) a.kc Hkl.out).mono ?_
                rintro e w3 ⟨F3, rfl, h3, t3⟩
                obtain ⟨H3, m3⟩ := st3 (DiskAt l (d.boot a.keep)) _ _ h3 t3
                have T3 := Lib.hid m3
                obtain ⟨hmix, lb⟩ := HL.out.boot a.keep
                have hsb := lb.safeB
                have hsl := lb.lf
                obtain ⟨S, hS⟩ : ∃ S, secS (d.boot a.keep) at' = S := ⟨_, rfl⟩
                rw [hS] at hmix lb hsb hsl
                have L3 := Lib.hid lb
                have Hmix := Lib.hid hmix
                have Hsb := Lib.hid hsb
                have Hsl := Lib.hid hsl
                have Hlr := Lib.hid (And.intro HL.out.lf (And.intro HL.out.lr HL.out.lo))
                clear h3 t3 m3 st3 hA3 hG3 hmix lb hsb hsl hS z0' z1' z2' z3' z4' y0 y1 y2 y3 y4
                go_wp2_with fail
                obtain ⟨G4, hA4, _, _⟩ := T3.out.lefts BoxT.ok
                refine (safe_any hA4 at').mono ?_
                rintro e w4 ⟨s4, rfl, hl4, hr4, hf4, hn4⟩
                rw [Hsb.out] at hl4 hr4
                have T4 := Lib.hid (T3.out.fr boxOk hf4)
                have O4 := Own.new (F := G4) hr4 hl4 hn4 (DiskAt.ok.lt hA4)
                have k4 := conv_rd O4.rd s4.cap
                rw [O4.val]
                clear hl4 hr4 hn4 hf4 hA4 O4
                go_wp2_with fail
                refine (mixed_any S fr sf Hsl.out Hlr.out.2.1 Hlr.out.1 _).mono ?_
                rintro e w5 ⟨rfl, f5⟩
                have T5 := Lib.hid (T4.out.fr boxOk f5)
                clear f5 k4
                cases hm1 : mixB S fr sf with
                | true =>
                  clear hm1
                  go_wp2_with fail
                  obtain ⟨G9, hA9, _, _⟩ := T5.out.lefts BoxT.ok
                  refine (read_any hA9 at').mono ?_
                  rintro e w9 ⟨s9, rfl, hl9, hr9, hf9, hn9⟩
                  obtain ⟨F9, m9⟩ := (T5.out.fr boxOk hf9).fst
                  have M9 := Lib.hid m9
                  cases hof : (d.boot a.keep).off with
                  | false =>
                    obtain ⟨er, eb⟩ := L3.out.read.1 hof
                    rw [eb] at hl9 hr9
                    rw [er]
                    have O9 := Own.new (F := G9) hr9 hl9 hn9 (DiskAt.ok.lt hA9)
                    have k9 := conv_rd O9.rd s9.cap
                    have kn := strB_ne S
                    rw [O9.val]
                    clear hl9 hr9 hn9 O9 hA9 hf9 er eb m9 hof
                    go_wp2_with fail
                    go_roundw
                    case rel => exact ⟨i + 1, _, F9, S, S, S, hi', by go_num, rfl, rfl, rfl, L3, M9.out⟩
                    case measure => simp [intOf]; omega
                  | true =>
                    have er := L3.out.read.2 hof
                    rw [er]
                    clear hl9 hr9 hn9 hA9 hf9 er m9 hof
                    go_wp2_with fail
                    go_roundw
                    case rel => exact ⟨i + 1, _, F9, S, S, S, hi', by go_num, rfl, rfl, rfl, L3, M9.out⟩
                    case measure => simp [intOf]; omega
                | false =>
                  have hm2 : mixB S ot sf = true := by
                    rcases Hmix.out with ⟨k, hk, e⟩ | ⟨k, hk, e⟩
                    · rw [mix_of hk Hlr.out.2.1 e] at hm1; cases hm1
                    · exact mix_of hk Hlr.out.2.2 e
                  have Hm2 := Lib.hid hm2
                  clear hm1 hm2
                  go_wp2_with fail
                  refine (mixed_any S ot sf Hsl.out Hlr.out.2.2 Hlr.out.1 _).mono ?_
                  rintro e w6 ⟨rfl, f6⟩
                  have T6 := Lib.hid (T5.out.fr boxOk f6)
                  rw [Hm2.out]
                  clear f6
                  go_wp2_with fail
                  obtain ⟨G9, hA9, _, _⟩ := T6.out.lefts BoxT.ok
                  refine (read_any hA9 at').mono ?_
                  rintro e w9 ⟨s9, rfl, hl9, hr9, hf9, hn9⟩
                  obtain ⟨F9, m9⟩ := (T6.out.fr boxOk hf9).fst
                  have M9 := Lib.hid m9
                  cases hof : (d.boot a.keep).off with
                  | false =>
                    obtain ⟨er, eb⟩ := L3.out.read.1 hof
                    rw [eb] at hl9 hr9
                    rw [er]
                    have O9 := Own.new (F := G9) hr9 hl9 hn9 (DiskAt.ok.lt hA9)
                    have k9 := conv_rd O9.rd s9.cap
                    have kn := strB_ne S
                    rw [O9.val]
                    clear hl9 hr9 hn9 O9 hA9 hf9 er eb m9 hof
                    go_wp2_with fail
                    go_roundw
                    case rel => exact ⟨i + 1, _, F9, S, S, S, hi', by go_num, rfl, rfl, rfl, L3, M9.out⟩
                    case measure => simp [intOf]; omega
                  | true =>
                    have er := L3.out.read.2 hof
                    rw [er]
                    clear hl9 hr9 hn9 hA9 hf9 er m9 hof
                    go_wp2_with fail
                    go_roundw
                    case rel => exact ⟨i + 1, _, F9, S, S, S, hi', by go_num, rfl, rfl, rfl, L3, M9.out⟩
                    case measure => simp [intOf]; omega
              | false => as_aux_lemma =>
                go_wp2_with fail
                refine Hup.out.mono ?_
                rintro e w2 ⟨rfl, rfl⟩
                clear Hup
                go_wp2_with fail
                clear z0' z1' z2' z3' z4' y0 y1 y2 y3 y4
                obtain ⟨G9, hA9, _, _⟩ := HT.out.lefts BoxT.ok
                refine (read_any hA9 at').mono ?_
                rintro e w9 ⟨s9, rfl, hl9, hr9, hf9, hn9⟩
                obtain ⟨F9, m9⟩ := (HT.out.fr boxOk hf9).fst
                have M9 := Lib.hid m9
                cases hof : (d).off with
                | false =>
                  obtain ⟨er, eb⟩ := HL.out.read.1 hof
                  rw [eb] at hl9 hr9
                  rw [er]
                  have O9 := Own.new (F := G9) hr9 hl9 hn9 (DiskAt.ok.lt hA9)
                  have k9 := conv_rd O9.rd s9.cap
                  have kn := strB_ne fr
                  rw [O9.val]
                  clear hl9 hr9 hn9 O9 hA9 hf9 er eb m9 hof
                  go_wp2_with fail
                  go_roundw
                  case rel => exact ⟨i + 1, _, F9, sf, fr, ot, hi', by go_num, rfl, rfl, rfl, HL, M9.out⟩
                  case measure => simp [intOf]; omega
                | true =>
                  have er := HL.out.read.2 hof
                  rw [er]
                  clear hl9 hr9 hn9 hA9 hf9 er m9 hof
                  go_wp2_with fail
                  go_roundw
                  case rel => exact ⟨i + 1, _, F9, sf, fr, ot, hi', by go_num, rfl, rfl, rfl, HL, M9.out⟩
                  case measure => simp [intOf]; omega
    · have hex : (xs.length : Int) ≤ (i : Int) ∨ ((i : Int) < (xs.length : Int) ∧ 100 ≤ (i : Int)) := by omega
      clear hlt
      rcases hex with hex | ⟨hex, hex2⟩
      all_goals
        go_wp2_with fail
        go_ret
        exact ⟨rfl, M.out.below⟩
end Go.Proofs.Ytmcckppmciflmaa
