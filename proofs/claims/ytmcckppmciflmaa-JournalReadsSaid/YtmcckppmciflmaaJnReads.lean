/-
  JournalReads: the walk.
-/
import Derived.Test.YtmcckppmciflmaaJnCm
namespace Go.Proofs.Ytmcckppmciflmaa
open Go.RowKit

def txts (X : Nat → Bs) (n : Nat) : List ByteArray := (List.range n).map (fun k => strB (X k))
theorem txts_snoc (X : Nat → Bs) (n : Nat) : txts X n ++ [strB (X n)] = txts X (n + 1) := by simp [txts, List.range_succ]
theorem txts_len (X : Nat → Bs) (n : Nat) : (txts X n).length = n := by simp [txts]
set_option maxRecDepth 100000 in
set_option maxHeartbeats 6400000 in
theorem reads_walk (ao : Option Addr) (cap : Nat) (xs : List JAct) (lo : Option Addr) (lc : Nat) (l : List JW) (w : World) (hx : RowRd JActR w ao xs) (hxs : ∀ y ∈ xs, y.Ok w) (hl : ∃ ws, ArgW w lo ws l) :
    Calls Try.prog 8 #[.slice ao xs.length cap, .slice lo l.length lc] w fun e w' => e = .returned (.bool true) ∧ Below w.heap.size w w' := by
  obtain ⟨lws, hl⟩ := hl
  have HX := Lib.hid hx
  have HXS := Lib.hid hxs
  have HL := Lib.hid hl
  have hxl := hx.len
  unfold maxLen at hxl
  have hll := hl.bytes
  clear hx hxs hl
  go_enter Try.func8, Try.ntmps8
  go_wp2_with fail
  refine (jsmall_any _).mono ?_
  rintro e w0 ⟨rfl, f0⟩
  go_wp2_with fail
  refine (new_mine (f0.below (Nat.le_refl _) (fun _ h => h.elim)) 14 64 (by kernel_rfl) (show _ = DK.new 14 64 from rfl)).mono ?_
  rintro e w1 ⟨L, F1, rfl, hm1⟩
  have M1 := Lib.hid hm1
  clear hm1 f0
  go_wp2_with fail
  refine (jopen_any M1.out.it).mono ?_
  rintro e w2 hO
  obtain ⟨j, H2, rfl, h2, s2⟩ := hO.ok (Jn14.open' Jn14.new)
  have M2 := Lib.hid (M1.out.step (A' := JAt j L (DK.new 14 64) 0) h2 s2)
  clear h2 s2 hO M1
  go_wp2_with fail
  go_loopw [10] (fun s10 wr => ∃ (i : Nat) (X : Nat → Bs) (d : DK) (H : Nat → Prop), i ≤ xs.length ∧ i ≤ 10 ∧ s10 = .int .i64 i ∧ Mine w (JAt j L d 0) wr H ∧ Hid (Jn14 X d)) (fun s10 _ => 10 - (intOf s10).toNat)
  case atStart => exact ⟨0, _, _, H2, Nat.zero_le _, by omega, rfl, M2.out, Lib.hid Jn14.new⟩
  case round =>
    obtain ⟨i, X, d, H, hi, hi10, rfl, hm, HJ⟩ := hrel
    have M := Lib.hid hm
    clear hm M2
    by_cases hlt : i < xs.length ∧ i < 10
    · obtain ⟨hlt, hi9⟩ := hlt
      have q1 : (i : Int) < (xs.length : Int) := by omega
      have q2 : (i : Int) < 10 := by omega
      have q0 : (0 : Int) ≤ (i : Int) := by omega
      obtain ⟨b, off, rfl, hbw, y0, -, -, y3, -, -⟩ := jact_cells HX.out hlt
      have ha := HXS.out xs[i] (List.getElem_mem hlt)
      generalize xs[i] = a at *
      have HAo := Lib.hid ha
      have HY := Lib.hid (fun (W : World) (hW : Below w.heap.size w W) => And.intro (cell_below hW hbw y0) (cell_below hW hbw y3))
      obtain ⟨z0, z3⟩ := HY.out _ M.out.below
      obtain ⟨ws, hws⟩ := ha.ws
      have HWs := Lib.hid hws
      have hb32 := hws.bytes
      clear ha hws y0 y3 hlt
      by_cases h0 : a.op = 0
      · rw [h0] at z0
        clear h0
        go_wp2_with fail
        refine (made_any (HWs.out.jwrs M.out) a.lc hb32 HWs.out.max' 64 (by omega)).mono ?_
        rintro e w5 ⟨lo5, lc5, us, rfl, hO5⟩
        have hJ5 := hO5.jwrs (JAt.ok.lt M.out.it)
        have hM5 := M.out.fr JAt.ok hO5.fr
        have Hcm := Lib.hid (jcommit_14 hM5.it HJ.out hJ5 lc5 hO5.cap hb32)
        have M5 := Lib.hid hM5
        clear hM5 hJ5 hO5
        go_wp2_with fail
        refine Hcm.out.mono ?_
        rintro e w6 ⟨d6, H6, rfl, h6, s6, j6⟩
        have hM6 := M5.out.step (A' := JAt j L d6 0) h6 s6
        have M6 := Lib.hid hM6
        have J6 := Lib.hid j6
        clear hM6 h6 s6 j6 Hcm
        go_wp2_with fail
        go_roundw
        case rel => exact ⟨i + 1, _, _, H6, by omega, by omega, by go_num, M6.out, J6⟩
        case measure => simp [intOf]; omega
      · have hb0 : (a.op == 0) = false := by simpa using h0
        clear h0
        go_wp2_with fail
        go_roundw
        case rel => exact ⟨i + 1, X, d, H, by omega, by omega, by go_num, M.out, HJ⟩
        case measure => simp [intOf]; omega
    · have hcs : (xs.length : Int) ≤ (i : Int) ∨ ((i : Int) < (xs.length : Int) ∧ (10 : Int) ≤ (i : Int)) := by omega
      clear hlt
      have HS5 := Lib.hid HJ.out.secs
      rcases hcs with q | ⟨q, q'⟩
      all_goals
        go_wp2_with fail
        obtain ⟨wo, rfl⟩ : ∃ wo : World, wo = wr := ⟨_, rfl⟩
        go_loopw [11, 12] (fun s11 s12 wr => ∃ (k : Nat) (po : Option Addr) (pc : Nat), k ≤ 5 ∧ s12 = .int .i64 k ∧ s11 = .slice po k pc ∧ wr.ownsRow wo.heap.size 9 TxtR.k (.slice po k pc) k (TxtR.flat (txts X k)) ∧ Fr noBlock wo wr) (fun _ s12 _ => 5 - (intOf s12).toNat)
        case atStart => exact ⟨0, none, 0, Nat.zero_le _, rfl, rfl, World.ownsRow_nil _ _ _ _, Fr.refl _ _⟩
        case round =>
          obtain ⟨k, po, pc, hk, rfl, rfl, hrow, hf⟩ := hrel
          have Hrow := Lib.hid hrow
          have HF := Lib.hid hf
          have hsz := hf.size
          clear hrow hf
          by_cases hlt : k < 5
          · have p1 : (k : Int) < 5 := by omega
            have p2 : (k : Int) < 16 := by omega
            have p0 : (0 : Int) ≤ (k : Int) := by omega
            have Hrd := Lib.hid (jread_14 (M.out.fr JAt.ok HF.out).it HJ.out hlt)
            clear hlt
            go_wp2_with fail
            refine (jsectors_any (M.out.fr JAt.ok HF.out).it).mono ?_
            rintro e w3 ⟨rfl, rfl⟩
            rw [HS5.out]
            go_wp2_with fail
            refine Hrd.out.mono ?_
            rintro e w4 ⟨⟨sa, sn, sc⟩, rfl, hls, hrs, hfs, hns⟩
            simp only at hls
            subst hls
            have k5 := conv_rd (RowAt.rd hrs) sc
            have HF4 := Lib.hid hfs
            have hz4 := hfs.size
            unfold SV.val
            dsimp only
            clear hrs hfs hns
            go_wp2_with (at_builtin; apply stop_here)
            refine ⟨?_, trivial⟩
            refine wpList_app rfl _ _ rfl el_txts (v := .slice po k pc) (txts X k) [strB (X k)] (txts X (k + 1)) (txts_snoc X k) wo.heap.size k (k + 1) (by rw [txts_len]) rfl (ownsRow_fr Hrow.out (HF4.out.alloc _) (fun _ _ x => x)) rfl (RowRd.one (heap_new w4 _) (strB (X k)) rfl) rfl (by unfold maxLen; omega) (by omega) (by simp; omega) ?_
            intro po3 pc3 w5 o5 g5 _
            go_frame
            have O5 := Lib.hid o5
            have HF5 := Lib.hid (((HF.out.trans' HF4.out).alloc _).grown g5 (fun k hk => .inr (Hrow.out.lt k hk).1))
            clear o5 g5
            go_wp2_with fail
            go_roundw
            case rel => exact ⟨k + 1, po3, pc3, by omega, by go_num, rfl, O5.out, HF5.out⟩
            case measure => simp [intOf]; omega
          · have e5 : k = 5 := by omega
            subst e5
            have p1 : ((5 : Nat) : Int) = 5 := rfl
            clear hlt
            go_wp2_with fail
            refine (jsectors_any (M.out.fr JAt.ok HF.out).it).mono ?_
            rintro e w3 ⟨rfl, rfl⟩
            rw [HS5.out]
            go_wp2_with fail
            refine (made_any (HL.out.jwrs (M.out.fr JAt.ok HF.out)) lc hll HL.out.max' 64 (by omega)).mono ?_
            rintro e w5 ⟨lo5, lc5, us, rfl, hO5⟩
            have M5 := Lib.hid ((M.out.fr JAt.ok HF.out).fr JAt.ok hO5.fr)
            have J5 := Lib.hid (hO5.jwrs (JAt.ok.lt (M.out.fr JAt.ok HF.out).it))
            have hc5 := hO5.cap
            have B5 := Lib.hid (show Bes TxtR po (txts X 5) w5 H from (Bes.new (w0 := wo) (RowAt.of_own Hrow.out (txts_len X 5).symm) (fun k hk => (Hrow.out.lt k hk).1) (JAt.ok.lt M.out.it)).fr hO5.fr)
            clear hO5
            go_wp2_with fail
            refine (jcommit_14 M5.out.it HJ.out J5.out lc5 hc5 hll).mono ?_
            rintro e w6 ⟨d6, H6, rfl, h6, s6, j6⟩
            have M6 := Lib.hid (M5.out.step (A' := JAt j L d6 0) h6 s6)
            have J6 := Lib.hid j6
            have W6 := Lib.hid (J5.out.step s6)
            have B6 := Lib.hid (B5.out.step s6)
            clear h6 s6 j6 hc5
            obtain ⟨g, hg⟩ : ∃ g, mayE d (madeL l 64) = g := ⟨_, rfl⟩
            rw [hg] at J6 ⊢
            have hml : (madeL l 64).length = l.length := madeL_len l 64
            have HM := Lib.hid hml
            obtain ⟨x, hxx⟩ : ∃ x, madeL l 64 = x := ⟨_, rfl⟩
            rw [hxx] at J6 W6 HM
            clear hml hxx hg
            go_wp2_with fail
            go_loopw [17] (fun s17 wr => ∃ k : Nat, k ≤ 5 ∧ s17 = .int .i64 k ∧ Fr noBlock w6 wr) (fun s17 _ => 5 - (intOf s17).toNat)
            case atStart => exact ⟨0, Nat.zero_le _, rfl, Fr.refl _ _⟩
            case round =>
              obtain ⟨k, hk, rfl, hf⟩ := hrel
              have G := Lib.hid hf
              clear hf
              by_cases hlt : k < 5
              · have r1 : (k : Int) < 5 := by omega
                have r0 : (0 : Int) ≤ (k : Int) := by omega
                obtain ⟨pb, pf, rfl, hpb, h3⟩ := (B6.out.fr G.out).rd.at' k (by rw [txts_len]; exact hlt)
                have y0 := h3 0 (.string (strB (X k))) (by simp [TxtR, txts])
                have hk1 : TxtR.k = 1 := rfl
                simp only [hk1, Nat.mul_one, Nat.add_zero] at y0
                have Hrd := Lib.hid (fun (W : World) (hW : Fr noBlock w6 W) => jread_14 (M6.out.fr JAt.ok hW).it J6.out hlt)
                clear h3 hlt hk1
                go_wp2_with fail
                obtain ⟨wq, rfl⟩ : ∃ wq : World, wq = wr := ⟨_, rfl⟩
                go_loopw [18, 19] (fun s18 s19 wr => ∃ i : Nat, i ≤ l.length ∧ s19 = .int .i64 i ∧ s18 = .string (strB (if g = 0 then lastW (x.take i) k (X k) else X k)) ∧ Fr noBlock w6 wr) (fun _ s19 _ => l.length - (intOf s19).toNat)
                case atStart => exact ⟨0, Nat.zero_le _, rfl, by simp [lastW], G.out⟩
                case round =>
                  obtain ⟨i, hi, rfl, rfl, hf⟩ := hrel
                  have G2 := Lib.hid hf
                  clear hf
                  by_cases hlt : i < l.length ∧ g = 0
                  · obtain ⟨hlt, rfl⟩ := hlt
                    have t1 : (i : Int) < (l.length : Int) := by omega
                    have t0 : (0 : Int) ≤ (i : Int) := by omega
                    obtain ⟨bb, of', sv, rfl, hbl, z0, z1, -, hsn, hbb⟩ := (W6.out.fr G2.out).at' (i := i) (by rw [HM.out]; exact hlt)
                    have hlw := lastW_take x k (X k) (i := i) (by rw [HM.out]; exact hlt)
                    generalize x[i]'(by rw [HM.out]; exact hlt) = q at *
                    obtain ⟨qn, qb⟩ := q
                    simp only at z0 z1 hsn hlw hbb
                    have k6 := conv_rd hbb.rd sv.cap
                    rw [if_pos rfl]
                    clear hbb hlt
                    by_cases he : qn = (k : Int)
                    · subst he
                      rw [if_pos rfl] at hlw
                      have Hlw := Lib.hid hlw
                      clear hlw
                      go_wp2_with fail
                      go_roundw
                      case rel => exact ⟨i + 1, by omega, by go_num, by rw [Hlw.out], G2.out⟩
                      case measure => simp [intOf]; omega
                    · rw [if_neg he] at hlw
                      have Hlw := Lib.hid hlw
                      have heb : (qn == (k : Int)) = false := by simpa using he
                      clear hlw he
                      go_wp2_with fail
                      go_roundw
                      case rel => exact ⟨i + 1, by omega, by go_num, by rw [Hlw.out], G2.out⟩
                      case measure => simp [intOf]; omega
                  · have hwant : (if g = 0 then lastW (x.take i) k (X k) else X k) = (if g = 0 then thnF x X else X) k := by
                      by_cases h0 : g = 0
                      · have hil : i = x.length := by have := HM.out; omega
                        rw [if_pos h0, if_pos h0, hil, List.take_length]
                        rfl
                      · rw [if_neg h0, if_neg h0]
                    rw [hwant]
                    have hcs : (l.length : Int) ≤ (i : Int) ∨ ((i : Int) < (l.length : Int) ∧ (g == 0) = false) := by
                      by_cases h0 : g = 0
                      · left; omega
                      · by_cases hil : i < l.length
                        · exact .inr ⟨by omega, by simpa using h0⟩
                        · left; omega
                    clear hlt hwant
                    obtain ⟨Y, hY⟩ : ∃ Y, (if g = 0 then thnF x X else X) k = Y := ⟨_, rfl⟩
                    have Hrd2 := Lib.hid (Hrd.out _ G2.out)
                    rw [hY] at Hrd2 ⊢
                    clear hY
                    rcases hcs with t | ⟨t, t'⟩
                    all_goals
                      go_wp2_with fail
                      refine Hrd2.out.mono ?_
                      rintro e w8 ⟨⟨sa, sn, sc⟩, rfl, hls, hrs, hfs, hns⟩
                      simp only at hls
                      subst hls
                      have k5 := conv_rd (RowAt.rd hrs) sc
                      have G8 := Lib.hid (G2.out.trans' hfs)
                      unfold SV.val
                      dsimp only
                      clear hrs hfs hns
                      go_wp2_with fail
                      go_roundw
                      case rel => exact ⟨k + 1, by omega, by go_num, G8.out⟩
                      case measure => simp [intOf]; omega
              · have e5 : k = 5 := by omega
                subst e5
                have r1 : ((5 : Nat) : Int) = 5 := rfl
                have hdd : d6.dirty.length = 0 := by rw [J6.out.cl.2.2]; rfl
                have Hdd := Lib.hid hdd
                clear hlt hdd
                go_wp2_with fail
                obtain ⟨G9, hG9, -, -⟩ := (M6.out.fr JAt.ok G.out).it.disk
                refine (dirty_any hG9).mono ?_
                rintro e w9 ⟨ao9, cap9, rfl, hr9, hf9, hn9⟩
                have MB := Lib.hid (M6.out.fr JAt.ok (G.out.trans' hf9)).below
                rw [Hdd.out]
                clear hr9 hf9 hn9 hG9
                go_wp2_with fail
                go_ret
                exact ⟨rfl, MB.out⟩
end Go.Proofs.Ytmcckppmciflmaa
