/-
  THE WALK of the document's Open.
-/
import Derived.Deep.RegionHeld3
import Derived.Deep.CutBlock
import Derived.Outline
import Derived.Test.YtmcckppmciflmaaRjCommit
import Derived.Test.YtmcckppmciflmaaRjTold
import Derived.Test.YtmcckppmciflmaaJnOpen
namespace Go.Proofs.Ytmcckppmciflmaa
open Go.RowKit

def ROpenP (L : Nat) (d : DK) (F : Nat → Prop) (w : World) (e : Ending) (w' : World) : Prop :=
  ((openR d).2 = 0 ∧ ∃ j H', e = .returned (.tuple #[.pointer (some ⟨j, 0, none⟩), .int .i64 0]) ∧ RJAt j L (openR d).1 0 w' H' ∧ Step F H' w w') ∨
  ((openR d).2 ≠ 0 ∧ ∃ F', e = .returned (.tuple #[.pointer none, .int .i64 (openR d).2]) ∧ RDiskAt L (openR d).1 w' F' ∧ Step F F' w w')
theorem RJAt.start {L : Nat} {d : DK} {w : World} {F : Nat → Prop} (h : RDiskAt L d w F) : RJAt w.heap.size L d 0 (w.alloc (RJobj L 0)) (fun k => F k ∨ k = w.heap.size) ∧ Step F (fun k => F k ∨ k = w.heap.size) w (w.alloc (RJobj L 0)) := by
  have hf := (Fr.refl noBlock w).alloc (RJobj L 0)
  refine ⟨⟨F, fun k => k = w.heap.size, RDiskAt.ok.fr0 h hf, ⟨heap_new w _, fun _ => Iff.rfl⟩, fun k hk e => by have := RDiskAt.ok.lt h k hk; omega, fun _ => Iff.rfl⟩, ⟨hf.mono (fun _ x => x.elim), fun k hk => hk.imp (fun x => x) (fun e => by omega)⟩⟩
theorem RJAt.out {j L : Nat} {d : DK} {bad : Int} {w0 w : World} {F H : Nat → Prop} (h : RJAt j L d bad w H) (s : Step F H w0 w) : ∃ F', RDiskAt L d w F' ∧ Step F F' w0 w := by
  obtain ⟨G, h1, h2, _⟩ := h.disk
  exact ⟨G, h1, s.sub h2⟩
/-- an Open that told an error -/
theorem RC.opened_bad {j L : Nat} {d dd : DK} {F H1 : Nat → Prop} {w wr : World} {A : List JA} {x : Int} (R : RC j L d F w A wr dd x H1) (hx : x ≠ 0) (hO : openR d = jrun (d, 0) A) : ROpenP L d F w (.returned (.tuple #[.pointer none, .int .i64 x])) wr := by
  rw [R.run] at hO
  right
  rw [hO]
  obtain ⟨F', q1, q2⟩ := R.at'.out R.st
  exact ⟨hx, F', rfl, q1, q2⟩
theorem RC.opened {j L : Nat} {d dd : DK} {F H1 : Nat → Prop} {w wr : World} {A : List JA} (R : RC j L d F w A wr dd 0 H1) (hO : openR d = jrun (d, 0) A) : ROpenP L d F w (.returned (.tuple #[.pointer (some ⟨j, 0, none⟩), .int .i64 0])) wr := by
  rw [R.run] at hO
  left
  rw [hO]
  exact ⟨rfl, j, H1, rfl, R.at', R.st⟩
theorem RC.from {j L : Nat} {d dd : DK} {F H0 H1 : Nat → Prop} {w w3 wr : World} {A : List JA} {x : Int} (R : RC j L d H0 w3 A wr dd x H1) (s : Step F H0 w w3) : RC j L d F w A wr dd x H1 := ⟨R.at', R.run, s.trans R.st⟩
set_option maxRecDepth 100000 in
set_option maxHeartbeats 12800000 in
theorem ropen_any {L : Nat} {d : DK} {w : World} {F : Nat → Prop} (h : RDiskAt L d w F) : Calls Try.prog 60 #[.pointer (some ⟨L, 0, none⟩)] w (ROpenP L d F w) := by
  have HD := Lib.hid h
  have hs0 := h.good.s0
  have hs1 := h.good.s1
  have hn1 := h.good.n1
  obtain ⟨sa, sc, c0, c2, c3, hL⟩ := h.cells
  by_cases hlen : d.safe.length ≤ 9
  · have hO : openR d = (d, 1) := by unfold openR; rw [if_pos hlen]
    have HO := Lib.hid hO
    have q1 : (d.safe.length : Int) < 10 := by omega
    clear hO hlen h c2 c3
    go_enter Try.func60, Try.ntmps60
    go_wp2_with fail
    go_ret2
    right
    rw [HO.out]
    exact ⟨by simp, F, rfl, HD.out, Step.refl _ _⟩
  have q1 : (10 : Int) ≤ (d.safe.length : Int) := by omega
  cases hoff : d.off with
  | true =>
    have hO : openR d = (d, 30) := by unfold openR; rw [if_neg hlen, if_pos hoff]
    have HO := Lib.hid hO
    rw [hoff] at c3
    clear hO hlen h hoff c2
    go_enter Try.func60, Try.ntmps60
    go_wp2_with fail
    go_ret2
    right
    rw [HO.out]
    exact ⟨by simp, F, rfl, HD.out, Step.refl _ _⟩
  | false =>
    have his : d.isS 0 = true := DK.isS_iff.2 ⟨by omega, by omega⟩
    obtain ⟨hh, hhd⟩ : ∃ hh, d.readB 0 = hh := ⟨_, rfl⟩
    have hhl : hh.length = d.size := by
      rw [← hhd]
      unfold DK.readB
      rw [hoff, his]
      simp only [Bool.false_eq_true, if_false, Bool.true_eq_false]
      cases hlk : lookD d.dirty 0 with
      | some b =>
        obtain ⟨p, hp, _, rfl⟩ := lookD_mem hlk
        exact (h.good.there p hp).2
      | none =>
        have h0 : 0 < d.safe.length := by omega
        have : d.safe.getD (0 : Int).toNat [] = d.safe[0] := by simp [List.getD, List.getElem?_eq_getElem h0]
        simp only [Option.getD_none]
        rw [this]
        exact h.good.sizes _ (List.getElem_mem h0)
    have hO : openR d = if hh.getD 0 0 = 0 then (d, 0) else if toldB d hh = false then (d, 21) else jrun (d, 0) (openA d hh) := by
      unfold openR
      rw [if_neg hlen, hoff, hhd]
      rfl
    have HO := Lib.hid hO
    have Hhd := Lib.hid hhd
    have Hhl := Lib.hid hhl
    have hl64 : 64 ≤ hh.length := by omega
    have hl4096 : hh.length ≤ 4096 := by omega
    rw [hoff] at c3
    clear hO hlen hoff his hhd c2
    obtain ⟨hJ, hS⟩ := RJAt.start h
    have HJ := Lib.hid (And.intro hJ hS)
    clear hJ hS h
    go_enter Try.func60, Try.ntmps60
    go_upto_region 6 with (fail)
    refine wp_at (φ := fun W => ∃ H, RJAt w.heap.size L d 0 W H ∧ Step F H w W) ⟨_, HJ.out⟩ ?_
    rintro w1 ⟨H, hA, hT⟩
    have HA := Lib.hid (And.intro hA hT)
    have hw1 : w.heap.size < w1.heap.size := hA.cells.2.2.2
    clear hA hT c0 c3
    go_wp2_with fail
    obtain ⟨G, hG, -, -⟩ := HA.out.1.disk
    refine (rread_any hG 0).mono ?_
    rintro e w2 ⟨s, rfl, hls, hrs, hfs, hns⟩
    rw [Hhd.out] at hls hrs
    have HA2 := Lib.hid (And.intro (RJAt.ok.fr0 HA.out.1 hfs) (HA.out.2.trans (Step.same hfs)))
    have HL1 := Lib.hid (RJAt.ok.lt HA.out.1)
    obtain ⟨sa, sn, sc⟩ := s
    simp only at hls
    subst hls
    obtain ⟨g, cap', eg, hcp, -⟩ := hrs.block' (by omega)
    simp only [SV.val, Value.slice.injEq] at eg
    obtain ⟨rfl, -, rfl⟩ := eg
    unfold SV.val
    dsimp only
    have hrs' : RowAt 5 ByteR w2 (.slice (some ⟨g, 0, none⟩) hh.length sc) hh := hrs
    have HRs := Lib.hid hrs'
    have hgn : w1.heap.size ≤ g := hns g rfl
    obtain ⟨y0, z0⟩ := byte_at hrs' (i := 0) (by omega)
    have hg0 : hh.getD 0 0 = hh[0]'(by omega) := by simp [List.getD, List.getElem?_eq_getElem (show 0 < hh.length by omega)]
    have hTB := toldB_eq d hh
    rw [hg0] at HO hTB
    have HTB := Lib.hid hTB
    obtain ⟨xe, hxe⟩ : ∃ x, d.readE 0 = x := ⟨_, rfl⟩
    rw [hxe]
    generalize hh[0]'(by omega) = b0 at *
    unfold byteV at y0
    have hb0 := b0.toNat_lt
    clear hG hrs hfs hns hrs' hg0 HA HJ hhl hTB hxe
    by_cases hz : b0 = 0
    · have hO2 := HO.out
      rw [if_pos hz] at hO2
      have HO2 := Lib.hid hO2
      have hbz : ((b0.toNat : Int) == 0) = true := by rw [hz]; rfl
      clear hz hO2
      go_wp2_with fail
      go_ret2
      left
      rw [HO2.out]
      exact ⟨rfl, _, H, rfl, HA2.out.1, HA2.out.2⟩
    · have hbz : ((b0.toNat : Int) == 0) = false := by
        have : b0.toNat ≠ 0 := fun h => hz (by rw [← UInt8.toNat_inj]; exact h)
        simp; omega
      have hO2 := HO.out
      rw [if_neg hz] at hO2
      have HO2 := Lib.hid hO2
      clear hz hO2
      go_wp2_with fail
      refine (rtold_any HA2.out.1 (RowAt.rd HRs.out) sc Hhl.out hcp).mono ?_
      rintro e w3 ⟨lo, n, lc, rfl, f3, h3⟩
      have HT3 := Lib.hid h3
      have HF3 := Lib.hid f3
      have y3 := (f3.cell (p := ⟨g, 0, none⟩) (lt_of_cell y0) (fun x => x)).trans y0
      have z3 := (f3.frozen (p := ⟨g, 0, none⟩) (lt_of_cell y0) (fun x => x)).trans z0
      have HR3 := Lib.hid (HRs.out.fr0 f3)
      clear h3 f3 y0 z0
      cases htb : toldB d hh with
      | false =>
        have hO3 := HO2.out
        rw [if_pos htb] at hO3
        have HO3 := Lib.hid hO3
        have hcs : ((b0.toNat : Int) != 1) = true ∨ (((b0.toNat : Int) != 1) = false ∧ toldC d hh = false) := by
          by_cases h1 : b0 = 1
          · have := HTB.out
            rw [htb, h1] at this
            exact .inr ⟨by rw [h1]; rfl, by simpa using this.symm⟩
          · left
            have : b0.toNat ≠ 1 := fun h => h1 (by rw [← UInt8.toNat_inj]; exact h)
            simp; omega
        obtain ⟨tc, htc⟩ : ∃ tc, toldC d hh = tc := ⟨_, rfl⟩
        rw [htc] at hcs ⊢
        clear htb hO3 htc
        rcases hcs with q | ⟨q, rfl⟩
        all_goals
          go_wp2_with fail
          go_ret2
          right
          rw [HO3.out]
          obtain ⟨F', q1, q2⟩ := HA2.out.1.out HA2.out.2
          exact ⟨by simp, F', rfl, RDiskAt.ok.fr0 q1 HF3.out, q2.trans (Step.same HF3.out)⟩
      | true =>
        have hO3 := HO2.out
        rw [if_neg (by rw [htb]; simp)] at hO3
        have hTB := HTB.out
        rw [htb] at hTB
        have hb1 : b0 = 1 ∧ toldC d hh = true := by simpa using hTB.symm
        obtain ⟨hb1, htc⟩ := hb1
        have hbq : ((b0.toNat : Int) != 1) = false := by rw [hb1]; rfl
        have hTw := HT3.out htc
        have hnl8 : 1 ≤ (hh.getD 1 0).toNat ∧ (hh.getD 1 0).toNat ≤ 8 := by
          unfold toldB at htb
          simp only [Bool.and_eq_true, decide_eq_true_eq] at htb
          exact ⟨htb.1.1.1.2, htb.1.1.2⟩
        have hall : ∀ w ∈ toldL d hh (hh.getD 1 0).toNat, isJ d w.1 = true := by
          unfold toldB at htb
          simp only [Bool.and_eq_true, List.all_eq_true] at htb
          exact htb.1.2
        obtain ⟨ws, hW⟩ := hTw
        obtain ⟨tl, htl⟩ : ∃ tl, toldL d hh (hh.getD 1 0).toNat = tl := ⟨_, rfl⟩
        have hopA : openA d hh = homeA tl ++ [none] ++ [some (0, hh.set 0 0)] ++ [none] := by unfold openA; rw [htl]; simp
        rw [htl] at hW hall
        rw [hopA] at hO3
        have hnl := hW.len2
        have hlt8 : tl.length ≤ 8 := by rw [← htl]; unfold toldL; simp; exact hnl8.2
        have hsec : ∀ w ∈ tl, 0 ≤ w.1 ∧ w.1 < 65536 := by
          intro v hv
          have := hall v hv
          unfold isJ secs at this
          simp at this
          omega
        have hmax : ∀ w ∈ tl, w.2.length ≤ 9223372036854775807 := by
          intro v hv
          obtain ⟨i, hi, rfl⟩ := List.getElem_of_mem hv
          have hi' : i < ws.length := by rw [hW.len, ← hnl]; exact hi
          obtain ⟨_, _, hr, _⟩ := hW.each i ws[i] tl[i] (List.getElem?_eq_getElem hi') (List.getElem?_eq_getElem hi)
          obtain ⟨_, _, _, h1, h2, _⟩ := hr.shape
          unfold maxLen at h2
          omega
        have hgH : ¬ H g := fun hk => by have := HL1.out g hk; omega
        have hgw3 : g < w3.heap.size := HR3.out.lt g rfl
        have hJ3 : JWrs w3 H lo ws tl := hW.jwrs (fun k hk => RJAt.ok.lt HA2.out.1 k hk)
        have HW := Lib.hid hJ3
        have HSec := Lib.hid hsec
        have HMax := Lib.hid hmax
        have HO3 := Lib.hid hO3
        have HG := Lib.hid (And.intro hgH hgw3)
        have HT := Lib.hid (HA2.out.2.trans (Step.same HF3.out))
        have HR1 := Lib.hid (RC.start (RJAt.ok.fr0 HA2.out.1 HF3.out))
        subst hnl
        rw [htc]
        have hgw : w.heap.size ≤ g := by omega
        clear htb hO3 hW hall hsec hmax hopA htl hnl8 hTB hb1 htc hgH hJ3 HTB HT3 HO2 HO hgw3
        go_wp2_with fail
        go_loopw [8, 9] (fun s8 s9 wr => ∃ (i : Nat) (dd : DK) (H1 : Nat → Prop), i ≤ tl.length ∧ s9 = .int .i64 i ∧ s8 = .bool true ∧ Hid (RC w.heap.size L d H w3 (homeA (tl.take i)) wr dd 0 H1)) (fun _ s9 _ => tl.length - (intOf s9).toNat)
        case atStart => exact ⟨0, _, _, Nat.zero_le _, rfl, rfl, HR1⟩
        case round =>
          obtain ⟨i, dd, H1, hi, rfl, rfl, R'⟩ := hrel
          clear HR1
          obtain ⟨R, hRR⟩ : ∃ R, R = R' := ⟨_, rfl⟩
          clear hRR R'
          by_cases hlt : i < tl.length
          · have q1 : (i : Int) < (tl.length : Int) := by omega
            have hi' : i + 1 ≤ tl.length := hlt
            obtain ⟨c0, c2⟩ := R.out.cells
            obtain ⟨b, off, s, rfl, hb, y0, y1, -, hsn, hbb⟩ := (HW.out.step R.out.st).at' hlt
            have hmx := HMax.out tl[i] (List.getElem_mem hlt)
            have hse := HSec.out tl[i] (List.getElem_mem hlt)
            have hna := home_take hlt
            have hnb : ¬ H1 b := ((HW.out.step R.out.st).rows.ap (by have := HW.out.len; omega) ⟨b, off, none⟩ rfl).1
            generalize tl[i] = q at *
            obtain ⟨qn, qb⟩ := q
            simp only at y0 y1 hmx hsn hbb hna hse
            obtain ⟨hq0, hq1⟩ := hse
            have HB := Lib.hid hbb
            rw [show (9 : Int) + qn = qn + 8 + 1 by omega] at hna
            have Hna := Lib.hid hna.symm
            have wp1 : IntKind.i64.wrap (qn + 8) = qn + 8 := IntWalk.i64_in _ (by omega)
            have wp2 : IntKind.i64.wrap (qn + 8 + 1) = qn + 8 + 1 := IntWalk.i64_in _ (by omega)
            have HY := Lib.hid (fun (W : World) (H' : Nat → Prop) (hT : Step H1 H' wr W) => And.intro (((hT.keep hb hnb).1 _).trans y0) (((hT.keep hb hnb).1 _).trans y1))
            clear hbb hna hlt hsn hnb
            go_wp2_with fail
            go_region_held3 (fun W => (W.cell? ⟨b, off + i * 2, none⟩ = some (.int .i64 qn) ∧ W.cell? ⟨b, off + i * 2 + 1, none⟩ = some (.slice s.ao qb.length s.cap)))
              (first | exact HY.out _ _ (Step.same ((Fr.refl _ _).drew)) | exact HY.out _ _ ((Step.same ((Fr.refl _ _).drew)).trans hT5) | exact HY.out _ _ (((Step.same ((Fr.refl _ _).drew)).trans hT5).trans s6))
              (first
                | (go_at_call 45; (with_reducible refine (rwrite_jat (R.out.fr ((Fr.refl _ _).drew)).at' _ (HB.out.fr ((Fr.refl _ _).drew)) s.cap hmx).mono ?_); rintro e w5 ⟨H5, rfl, hA5, hT5⟩)
                | (go_at_call 76; (with_reducible refine (rdo_any hA5 _).mono ?_); rintro e w6 ⟨rfl, h6, s6⟩))
            have hR6 := (R.out.fr ((Fr.refl _ _).drew)).write h6 (hT5.trans s6)
            rw [Hna.out] at hR6
            have R6 := Lib.hid hR6
            clear hA5 hT5 h6 s6 hR6 wp1 wp2 c0 c2 y0 y1
            obtain ⟨x, hx⟩ : ∃ x, dd.writeE (qn + 8 + 1) qb.length = x := ⟨_, rfl⟩
            rw [hx] at R6 ⊢
            clear hx
            by_cases h0 : x = 0
            · subst h0
              go_wp2_with fail
              go_roundw
              case rel => exact ⟨i + 1, _, _, hi', by go_num, rfl, R6⟩
              case measure => simp [intOf]; omega
            · have hb0 : (x == 0) = false := by simpa using h0
              have c1 := R6.out.badc
              have H0 := Lib.hid h0
              rw [hb0]
              clear h0
              go_wp2_with fail
              go_quiet (fail)
              go_wp2_with fail
              go_ret2
              have hR := R6.out.bad H0.out (homeA (tl.drop (i + 1)) ++ [none] ++ [some (0, hh.set 0 0)] ++ [none])
              have e : homeA (tl.take (i + 1)) ++ (homeA (tl.drop (i + 1)) ++ [none] ++ [some (0, hh.set 0 0)] ++ [none]) = homeA tl ++ [none] ++ [some (0, hh.set 0 0)] ++ [none] := by simp only [← List.append_assoc]; rw [← homeA_append, List.take_append_drop]
              rw [e] at hR
              exact ((hR.from HT.out).fr ((Fr.refl _ _).drewN _)).opened_bad H0.out HO3.out
          · have q1 : (tl.length : Int) ≤ (i : Int) := by omega
            have e : i = tl.length := by omega
            subst e
            rw [List.take_length] at R
            clear hlt
            go_wp2_with fail
            refine (rflush_jat R.out.at').mono ?_
            rintro e w8 ⟨H8, rfl, hA8, hT8⟩
            have HA8 := Lib.hid (And.intro hA8 hT8)
            clear hA8 hT8
            go_wp2_with fail
            refine (rdo_any HA8.out.1 _).mono ?_
            rintro e w9 ⟨rfl, h9, s9⟩
            have R9 := Lib.hid (R.out.flush h9 (HA8.out.2.trans s9))
            clear h9 s9 HA8 R
            have hgk := R9.out.st.keep HG.out.2 HG.out.1
            have hgH9 := hgk.2.2
            have hR9 : RowAt 5 ByteR w9 (.slice (some ⟨g, 0, none⟩) hh.length sc) hh := HR3.out.fr R9.out.st.fr (fun k hk => by cases hk; exact HG.out.1)
            obtain ⟨y0, z0⟩ := byte_at hR9 (i := 0) (by omega)
            have hr4 := byte_set hR9 (i := 0) (by omega) 0
            have fg : Fr (fun k => k = g) w9 (w9.setCell ⟨g, 0, none⟩ (.int .u8 0)) := (Fr.refl (fun k => k = g) w9).setCell (p := ⟨g, 0, none⟩) (.inl rfl) _
            have HRg := Lib.hid (RC.mk (RJAt.ok.fr R9.out.at' fg (fun k hk e => hgH9 (e ▸ hk))) R9.out.run ((R9.out.from HT.out).st.news (S := fun k => k = g) fg (fun k hk => by have hk' : k = g := hk; omega)))
            have HBg := Lib.hid (show Bes ByteR (some ⟨g, 0, none⟩) (hh.set 0 0) (w9.setCell ⟨g, 0, none⟩ (.int .u8 0)) H8 from ⟨RowAt.rd hr4, fun _ a e => by cases e; exact ⟨hgH9, hr4.lt g rfl⟩⟩)
            have hsl : (hh.set 0 0).length = hh.length := List.length_set ..
            generalize hh.set 0 0 = hz at *
            generalize hh[0]'(by omega) = b00 at *
            unfold byteV at y0
            obtain ⟨A1, hA1⟩ : ∃ A, homeA tl ++ [none] = A := ⟨_, rfl⟩
            obtain ⟨y, hy⟩ : ∃ y, dd.flushE = y := ⟨_, rfl⟩
            have hO4 := HO3.out
            rw [hA1, hy] at HRg
            rw [hA1] at hO4
            rw [hy]
            have HO4 := Lib.hid hO4
            have Hsl := Lib.hid hsl
            clear hgk hgH9 hR9 hr4 fg R9 hA1 hy hO4 hsl HO3
            go_upto_region 20 with fail
            have hHR : ∃ W, Hid (RC w.heap.size L d F w A1 W dd.flush y H8 ∧ Bes ByteR (some ⟨g, 0, none⟩) hz W H8) ∧ W = w9.setCell ⟨g, 0, none⟩ (.int .u8 0) := ⟨_, Lib.hid ⟨HRg.out, HBg.out⟩, rfl⟩
            obtain ⟨w10, HR10, hw10⟩ := hHR
            rw [← hw10]
            clear hw10 HRg HBg y0 z0
            go_cut [8] from 75 to 88 (fun s8 wx => ∃ dx y Hx, s8 = .bool (y == 0) ∧ Hid (RC w.heap.size L d F w (A1 ++ [some (0, hz)]) wx dx y Hx))
            case first =>
              by_cases h0 : y = 0
              · subst h0
                rw [show ((0 : Int) == 0) = true from rfl]
                have hW := rwrite_jat HR10.out.1.at' 0 HR10.out.2 sc (by rw [Hsl.out]; omega)
                rw [Hsl.out] at hW
                have HWr := Lib.hid hW
                clear hW
                go_wp2_with fail
                refine HWr.out.mono ?_
                rintro e w11 ⟨H11, rfl, hA11, hT11⟩
                have HA11 := Lib.hid (And.intro hA11 hT11)
                clear hA11 hT11
                go_wp2_with fail
                refine (rdo_any HA11.out.1 _).mono ?_
                rintro e w12 ⟨rfl, h9, s9⟩
                have hR12 := HR10.out.1.next (some (0, hz)) (d' := dd.flush.write 0 hz) (x' := dd.flush.writeE 0 hh.length) (by rw [← Hsl.out]; rfl) h9 (HA11.out.2.trans s9)
                have R12 := Lib.hid hR12
                clear h9 s9 HA11 hR12 HWr
                go_wp2_with fail
                go_meet
                exact ⟨_, _, _, rfl, R12⟩
              · have hb0 : (y == 0) = false := by simpa using h0
                have H0 := Lib.hid h0
                rw [hb0]
                clear h0
                go_wp2_with fail
                go_meet
                exact ⟨_, _, _, by rw [hb0], Lib.hid (HR10.out.1.bad H0.out _)⟩
            clear HR10
            obtain ⟨dx, y2, Hx, rfl, R⟩ := hcut
            obtain ⟨A2, hA2⟩ : ∃ A, A1 ++ [some (0, hz)] = A := ⟨_, rfl⟩
            have hO5 := HO4.out
            rw [hA2] at R hO5
            have HO5 := Lib.hid hO5
            clear hA2 hO5 HO4
            go_upto_region 21 with fail
            go_cut [8] from 89 to 95 (fun s8 wx => ∃ dx y Hx, s8 = .bool (y == 0) ∧ Hid (RC w.heap.size L d F w (A2 ++ [none]) wx dx y Hx))
            case first =>
              by_cases h0 : y2 = 0
              · subst h0
                rw [show ((0 : Int) == 0) = true from rfl]
                go_wp2_with fail
                refine (rflush_jat R.out.at').mono ?_
                rintro e w11 ⟨H11, rfl, hA11, hT11⟩
                have HA11 := Lib.hid (And.intro hA11 hT11)
                clear hA11 hT11
                go_wp2_with fail
                refine (rdo_any HA11.out.1 _).mono ?_
                rintro e w12 ⟨rfl, h9, s9⟩
                have R12 := Lib.hid (R.out.flush h9 (HA11.out.2.trans s9))
                clear h9 s9 HA11
                go_wp2_with fail
                go_meet
                exact ⟨_, _, _, rfl, R12⟩
              · have hb0 : (y2 == 0) = false := by simpa using h0
                have H0 := Lib.hid h0
                rw [hb0]
                clear h0
                go_wp2_with fail
                go_meet
                exact ⟨_, _, _, by rw [hb0], Lib.hid (R.out.bad H0.out _)⟩
            clear R
            obtain ⟨dz, y3, Hz, rfl, R⟩ := hcut
            by_cases h0 : y3 = 0
            · subst h0
              rw [show ((0 : Int) == 0) = true from rfl]
              go_wp2_with fail
              go_ret2
              exact R.out.opened HO5.out
            · have hb0 : (y3 == 0) = false := by simpa using h0
              have H0 := Lib.hid h0
              have c1 := R.out.badc
              rw [hb0]
              clear h0
              go_wp2_with fail
              go_quiet (fail)
              go_wp2_with fail
              go_ret2
              exact (R.out.fr ((Fr.refl _ _).drewN _)).opened_bad H0.out HO5.out
end Go.Proofs.Ytmcckppmciflmaa
