/-
  THE WALK of the document's told.
-/
import Derived.Deep.QuietTactic
import Derived.BigQuiet
import Derived.Test.YtmcckppmciflmaaRjHead
import Derived.Test.YtmcckppmciflmaaJnMade
namespace Go.Proofs.Ytmcckppmciflmaa
open Go.RowKit

def toldC (d : DK) (h : Bs) : Bool := let n := (h.getD 1 0).toNat
  decide (1 ≤ n) && decide (n ≤ 8) && (toldL d h n).all (fun w => isJ d w.1) && decide (sumB (toldL d h n) = (h.drop 18).take 4)
theorem toldB_eq (d : DK) (h : Bs) : toldB d h = (decide (h.getD 0 0 = 1) && toldC d h) := by
  unfold toldB toldC
  simp only [Bool.and_assoc]
theorem headR_sum (flag : UInt8) {l : List JW} {size : Nat} (hl : l.length ≤ 8) : ((headB flag l size).drop 18).take 4 = sumB l := by
  unfold headB
  have e : ([flag, UInt8.ofNat l.length] ++ headN l ++ List.replicate (16 - 2 * l.length) 0).length = 18 := by simp [headN_len]; omega
  rw [List.append_assoc _ (sumB l), List.drop_append, e, List.drop_of_length_le (by omega), Nat.sub_self, List.drop_zero, List.nil_append, List.take_append, sumB_len, Nat.sub_self, List.take_zero, List.append_nil]
  rfl
def RToldP (d : DK) (h : Bs) (w : World) (e : Ending) (w' : World) : Prop := ∃ lo n lc, e = .returned (.tuple #[.slice lo n lc, .bool (toldC d h)]) ∧ Fr noBlock w w' ∧ (toldC d h = true → ∃ ws, OwnW w w' lo n lc ws (toldL d h (h.getD 1 0).toNat))
set_option maxRecDepth 100000 in
set_option maxHeartbeats 3200000 in
theorem rtold_any {j L : Nat} {d : DK} {bad : Int} {w : World} {H : Nat → Prop} (hj : RJAt j L d bad w H) {ho : Option Addr} {h : Bs} (hh : RowRd ByteR w ho h) (hc : Nat) (hhl : h.length = d.size) (hcap : h.length ≤ hc) :
    Calls Try.prog 75 #[.pointer (some ⟨j, 0, none⟩), .slice ho h.length hc] w (RToldP d h w) := by
  have HA := Lib.hid hj
  have HR := Lib.hid hh
  obtain ⟨c0, -, -, hjl⟩ := hj.cells
  have C0 := Lib.hid c0
  have hgd := Lib.hid hj.good
  have hs0 := hj.good.s0
  have hs1 := hj.good.s1
  have hn1 := hj.good.n1
  have hl64 : 64 ≤ h.length := by omega
  have hl4096 : h.length ≤ 4096 := by omega
  obtain ⟨b, off, rfl, hbl⟩ := byte_addr hh (i := 0) (by omega)
  have y1 := byte_rd hh (i := 1) (by omega)
  have g1 : h.getD 1 0 = h[1]'(by omega) := by simp [List.getD, List.getElem?_eq_getElem (show 1 < h.length by omega)]
  have HTB := Lib.hid (show toldC d h = (let n := (h[1]'(by omega)).toNat
    decide (1 ≤ n) && decide (n ≤ 8) && (toldL d h n).all (fun w => isJ d w.1) && decide (sumB (toldL d h n) = (h.drop 18).take 4)) by unfold toldC; rw [g1])
  have HG1 := Lib.hid g1
  have Hhl := Lib.hid hhl
  obtain ⟨sn, hsn⟩ : ∃ sn, secs d = sn := ⟨_, rfl⟩
  have HS := Lib.hid hsn
  have hsn1 : sn ≤ 4096 := by unfold secs at hsn; omega
  generalize h[1]'(by omega) = b1 at *
  unfold byteV at y1
  have hb1 := b1.toNat_lt
  clear g1 hj hh hhl hsn
  by_cases hok : 1 ≤ b1.toNat ∧ b1.toNat ≤ 8
  · obtain ⟨hk1, hk2⟩ := hok
    have k1 : (1 : Int) ≤ (b1.toNat : Int) := by omega
    have k2 : (b1.toNat : Int) ≤ 8 := by omega
    go_enter Try.func75, Try.ntmps75
    go_wp2_with fail
    go_loopw [7, 8] (fun s7 s8 wr => ∃ (i : Nat) (lo : Option Addr) (lc : Nat) (ws : List (Int × SV)), i ≤ b1.toNat ∧ s8 = .int .i64 i ∧ s7 = .slice lo i lc ∧ OwnW w wr lo i lc ws (toldL d h i) ∧ Hid ((toldL d h i).all (fun w => isJ d w.1) = true)) (fun _ s8 _ => b1.toNat - (intOf s8).toNat)
    case atStart => exact ⟨0, none, 0, [], Nat.zero_le _, rfl, rfl, OwnW.nil (Fr.refl _ _), Lib.hid rfl⟩
    case round =>
      obtain ⟨i, lo, lc, ws, hi, rfl, rfl, hW, HI⟩ := hrel
      have HW := Lib.hid hW
      have hf := hW.fr
      have Hf := Lib.hid hf
      have hsz0 := hf.size
      have x0 := (hf.cell (p := ⟨j, 0, none⟩) hjl (fun x => x)).trans C0.out
      clear hW y1 c0
      by_cases hlt : i < b1.toNat
      · have q1 : (i : Int) < (b1.toNat : Int) := by omega
        have hrd := HR.out.fr0 hf
        have ya := byte_rd hrd (i := 2 + 2 * i) (by omega)
        have yb := byte_rd hrd (i := 3 + 2 * i) (by omega)
        have ga : h.getD (2 + 2 * i) 0 = h[2 + 2 * i]'(by omega) := by simp [List.getD, List.getElem?_eq_getElem (show 2 + 2 * i < h.length by omega)]
        have gb : h.getD (3 + 2 * i) 0 = h[3 + 2 * i]'(by omega) := by simp [List.getD, List.getElem?_eq_getElem (show 3 + 2 * i < h.length by omega)]
        have htl : toldL d h (i + 1) = toldL d h i ++ [((((h[2 + 2 * i]'(by omega)).toNat * 256 + (h[3 + 2 * i]'(by omega)).toNat : Nat) : Int), d.readB (1 + (i : Int)))] := by
          unfold toldL
          rw [List.range_succ, List.map_append, List.map_singleton, ga, gb, show ((1 + i : Nat) : Int) = 1 + (i : Int) by omega]
        generalize h[2 + 2 * i]'(by omega) = ba at *
        generalize h[3 + 2 * i]'(by omega) = bb at *
        have hba := ba.toNat_lt
        have hbb := bb.toNat_lt
        obtain ⟨sec, hsec⟩ : ∃ sec : Int, ((ba.toNat * 256 + bb.toNat : Nat) : Int) = sec := ⟨_, rfl⟩
        rw [hsec] at htl
        have hsl : sec < 65536 := by omega
        have hsl0 : 0 ≤ sec := by omega
        have hse : (ba.toNat : Int) * 256 + (bb.toNat : Int) = sec := by omega
        have Htl := Lib.hid htl
        unfold byteV at ya yb
        have wp0 : IntKind.i64.wrap (2 * (i : Int)) = 2 * (i : Int) := IntWalk.i64_in _ (by omega)
        have wp1 : IntKind.i64.wrap (2 + 2 * (i : Int)) = 2 + 2 * (i : Int) := IntWalk.i64_in _ (by omega)
        have wp2 : IntKind.i64.wrap (3 + 2 * (i : Int)) = 3 + 2 * (i : Int) := IntWalk.i64_in _ (by omega)
        have wp3 : IntKind.i64.wrap ((ba.toNat : Int) * 256) = (ba.toNat : Int) * 256 := IntWalk.i64_in _ (by omega)
        have wp4 : IntKind.i64.wrap ((ba.toNat : Int) * 256 + (bb.toNat : Int)) = sec := by rw [hse]; exact IntWalk.i64_in _ (by omega)
        have wp5 : IntKind.i64.wrap (ba.toNat : Int) = (ba.toNat : Int) := IntWalk.i64_in _ (by omega)
        have wp6 : IntKind.i64.wrap (bb.toNat : Int) = (bb.toNat : Int) := IntWalk.i64_in _ (by omega)
        have hq1 : (0 : Int) ≤ 2 + 2 * (i : Int) := by omega
        have hq2 : 2 + 2 * (i : Int) < (h.length : Int) := by omega
        have hq3 : (0 : Int) ≤ 3 + 2 * (i : Int) := by omega
        have hq4 : 3 + 2 * (i : Int) < (h.length : Int) := by omega
        have ht1 : (2 + 2 * (i : Int)).toNat = 2 + 2 * i := by omega
        have ht2 : (3 + 2 * (i : Int)).toNat = 3 + 2 * i := by omega
        have hi2 : i + 1 ≤ b1.toNat := hlt
        clear hsec hse ga gb htl hrd hf hlt
        go_wp2_with fail
        go_quiet (fail)
        clear wp0 wp1 wp2 wp3 wp4 wp5 wp6 ht1 ht2 hq1 hq2 hq3 hq4 ya yb
        go_wp2_with fail
        obtain ⟨G, hG, -, -⟩ := (RJAt.ok.fr0 HA.out (Hf.out.drewN nq)).disk
        refine (rread_any hG _).mono ?_
        rintro e w2 ⟨s, rfl, hls, hrs, hfs, hns⟩
        have HF2 := Lib.hid ((Hf.out.drewN nq).trans' hfs)
        have HFs := Lib.hid (((Fr.refl noBlock wr).drewN nq).trans' hfs)
        have HNs := Lib.hid hns
        obtain ⟨sa, sn', sc⟩ := s
        simp only at hls
        obtain ⟨rb, hrb⟩ : ∃ rb, d.readB (1 + (i : Int)) = rb := ⟨_, rfl⟩
        rw [hrb] at hls hrs Htl
        subst hls
        have HRs := Lib.hid hrs
        unfold SV.val
        simp only
        obtain ⟨x, hx⟩ : ∃ x, d.readE (1 + (i : Int)) = x := ⟨_, rfl⟩
        rw [hx]
        have hsz2 := HFs.out.size
        clear hfs hns hrs hG hrb hx x0
        go_wp2_with fail
        refine (rjsectors_any (RJAt.ok.fr0 HA.out HF2.out)).mono ?_
        rintro e w3 ⟨rfl, rfl⟩
        rw [HS.out]
        by_cases hj : sec < sn
        · have hI2 : (toldL d h (i + 1)).all (fun w => isJ d w.1) = true := by
            rw [Htl.out, List.all_append, HI.out]
            have e := HS.out
            simp [isJ, e]
            omega
          have HI2 := Lib.hid hI2
          clear hI2
          go_wp2_with (at_builtin; apply stop_here)
          refine ⟨?_, trivial⟩
          refine wpList_app rfl _ _ rfl el_writes (v := .slice lo i lc) ws [(sec, (⟨sa, rb.length, sc⟩ : SV))] (ws ++ [(sec, (⟨sa, rb.length, sc⟩ : SV))]) rfl w.heap.size i (i + 1) (by rw [List.length_append, HW.out.len]; rfl) rfl (HW.out.own' (HFs.out.alloc _)) rfl (RowRd.one (heap_new _ _) (sec, (⟨sa, rb.length, sc⟩ : SV)) rfl) rfl (by unfold maxLen; omega) (by omega) (by simp; omega) ?_
          intro lo5 lc5 w5 o5 g5 _
          go_frame
          have hM := HW.out.more (HFs.out.alloc (.cells #[.int .i64 sec, .slice sa rb.length sc] 69)) (x := (sec, (⟨sa, rb.length, sc⟩ : SV))) (q := (sec, rb)) rfl rfl (HRs.out.fr0 ((Fr.refl _ _).alloc _)) (fun k hk => by have := HNs.out k hk; simp at this; omega) o5 rfl g5
          rw [← Htl.out] at hM
          have HM := Lib.hid hM
          clear hM o5 g5
          go_wp2_with fail
          go_roundw
          case rel => exact ⟨i + 1, lo5, lc5, _, hi2, by go_num, rfl, HM.out, HI2⟩
          case measure => simp [intOf]; omega
        · have hbad : toldC d h = false := by
            have h1 : (toldL d h (i + 1)).all (fun w => isJ d w.1) = false := by
              rw [Htl.out, List.all_append]
              have : isJ d sec = false := by
                have := HS.out
                simp [isJ, this]
                omega
              simp [this]
            have h2 := told_bad (n := b1.toNat) (by omega) h1
            rw [HTB.out, h2]
            simp
          have Hbad := Lib.hid hbad
          have hj' : sn ≤ sec := by omega
          clear hbad hj
          go_wp2_with fail
          go_ret2
          exact ⟨none, 0, 0, by rw [Hbad.out]; rfl, HF2.out, fun h => by rw [Hbad.out] at h; cases h⟩
      · have q1 : (b1.toNat : Int) ≤ (i : Int) := by omega
        have e : i = b1.toNat := by omega
        subst e
        have hlen := HW.out.len2
        have HLL := Lib.hid hlen
        have hJ := HW.out.jwrs (H := fun _ => False) (fun _ x => x.elim)
        have hd1 : decide (1 ≤ b1.toNat) = true := by simpa using hk1
        have hd2 : decide (b1.toNat ≤ 8) = true := by simpa using hk2
        have HT2 := HTB.out
        rw [HI.out, hd1, hd2] at HT2
        simp only [Bool.true_and] at HT2
        have HT3 := Lib.hid HT2
        have hsec : ∀ v ∈ toldL d h b1.toNat, 0 ≤ v.1 ∧ v.1 < 65536 := by
          intro v hv
          obtain ⟨k, _, rfl⟩ := List.mem_map.1 hv
          have h1 := (h.getD (2 + 2 * k) 0).toNat_lt
          have h2 := (h.getD (3 + 2 * k) 0).toNat_lt
          dsimp only
          omega
        have hsz : ∀ v ∈ toldL d h b1.toNat, v.2.length ≤ 4096 := by
          intro v hv
          obtain ⟨k, _, rfl⟩ := List.mem_map.1 hv
          exact readB_len hgd.out _
        have hhd := rhead_any hJ lc (by omega) hsec hsz 1 d.size (by omega) (by omega)
        rw [hlen, show (((1 : UInt8).toNat : Nat) : Int) = 1 from rfl] at hhd
        have Hhd := Lib.hid hhd
        have hxs := headR_sum 1 (l := toldL d h b1.toNat) (size := d.size) (by omega)
        have hxl := headB_len 1 (l := toldL d h b1.toNat) (size := d.size) (by omega) (by omega)
        obtain ⟨X, hX⟩ : ∃ X, headB 1 (toldL d h b1.toNat) d.size = X := ⟨_, rfl⟩
        rw [hX] at Hhd hxs hxl
        have HXs := Lib.hid hxs
        have HXl := Lib.hid hxl
        have hhr : RowRd ByteR w (some ⟨b, off + 18, none⟩) ((h.drop 18).take 4) := by
          have := HR.out.piece 18 4
          simpa [byteK] using this
        have hhl4 : ((h.drop 18).take 4).length = 4 := by simp; omega
        have hcv := fun (W : World) (hW : Fr noBlock w W) => conv_rd (hhr.fr0 hW) (hc - 18)
        rw [hhl4] at hcv
        have Hcv := Lib.hid hcv
        have hne : ¬ hc = 18 := by omega
        have hic : (22 : Int) ≤ (hc : Int) := by omega
        rw [← Hhl.out] at Hhd
        clear hlen hJ HT2 hd1 hd2 hhr hlt hsec hsz hhd hxs hxl hX hcv hhl4 x0
        go_wp2_with fail
        refine Hhd.out.mono ?_
        rintro e w3 ⟨s, rfl, hls, hrs, hfs, hns⟩
        obtain ⟨sa, sn', sc⟩ := s
        simp only at hls
        rw [HXl.out] at hls
        subst hls
        obtain ⟨g, cap', eg, hcp, -⟩ := hrs.block' (by rw [HXl.out]; omega)
        simp only [SV.val, Value.slice.injEq] at eg
        obtain ⟨rfl, -, rfl⟩ := eg
        rw [HXl.out] at hcp
        unfold SV.val
        dsimp only
        have hxr : RowRd ByteR w3 (some ⟨g, 18, none⟩) ((X.drop 18).take 4) := by
          have := (RowAt.rd hrs).piece 18 4
          simpa [byteK] using this
        rw [HXs.out] at hxr
        have hcx := fun (W : World) (hW : Fr noBlock w3 W) => conv_rd (hxr.fr0 hW) (sc - 18)
        rw [sumB_len] at hcx
        have HF3 := Lib.hid (Hf.out.trans' hfs)
        have HW3 := Lib.hid (HW.out.to hfs)
        have hne2 : ¬ sc = 18 := by omega
        have hic2 : (22 : Int) ≤ (sc : Int) := by omega
        have hTT := HT3.out
        have hcv := Hcv.out
        generalize sumB (toldL d h b1.toNat) = A at *
        generalize (h.drop 18).take 4 = B at *
        by_cases hAB : A = B
        · subst hAB
          have HT4 := Lib.hid (show toldC d h = true by rw [hTT]; simp)
          have Hcx := Lib.hid hcx
          have Hcv2 := Lib.hid hcv
          clear hTT hcx hcv HT3 Hcv hxr hrs hfs hns HXs HTB
          go_wp2_with fail
          go_region_held3 (fun W => (convert 23 9 (.slice (some ⟨g, 18, none⟩) 4 (sc - 18))).run Try.prog W = .ok (.string (strB A)) W ∧ (convert 23 9 (.slice (some ⟨b, off + 18, none⟩) 4 (hc - 18))).run Try.prog W = .ok (.string (strB A)) W)
            (exact ⟨Hcx.out _ ((Fr.refl _ _).drew), Hcv2.out _ (HF3.out.drew)⟩)
            (fail)
          go_wp2_with fail
          go_ret2
          exact ⟨lo, b1.toNat, lc, by rw [HT4.out]; rfl, HF3.out.drew, fun _ => ⟨ws, by rw [HG1.out]; exact HW3.out.to ((Fr.refl _ _).drew)⟩⟩
        · have HT4 := Lib.hid (show toldC d h = false by rw [hTT]; simpa using hAB)
          have Hcx := Lib.hid hcx
          have hnx : ((strB A).toList == (strB B).toList) = false := by
            rw [strB_list, strB_list]
            simpa using hAB
          have Hcv2 := Lib.hid hcv
          clear hTT hcx hcv HT3 Hcv hxr hrs hfs hns HXs HTB hAB
          go_wp2_with fail
          go_region_held3 (fun W => (convert 23 9 (.slice (some ⟨g, 18, none⟩) 4 (sc - 18))).run Try.prog W = .ok (.string (strB A)) W ∧ (convert 23 9 (.slice (some ⟨b, off + 18, none⟩) 4 (hc - 18))).run Try.prog W = .ok (.string (strB B)) W)
            (exact ⟨Hcx.out _ ((Fr.refl _ _).drew), Hcv2.out _ (HF3.out.drew)⟩)
            (fail)
          go_wp2_with fail
          go_ret2
          exact ⟨lo, b1.toNat, lc, by rw [HT4.out]; rfl, HF3.out.drew, fun h => by rw [HT4.out] at h; cases h⟩
  · have hbad : toldC d h = false := by
      have hT := HTB.out
      simp only at hT
      rw [hT]
      by_cases h1 : 1 ≤ b1.toNat
      · have h2 : decide (b1.toNat ≤ 8) = false := decide_eq_false (fun h => hok ⟨h1, h⟩)
        rw [h2]; simp
      · have h2 : decide (1 ≤ b1.toNat) = false := decide_eq_false h1
        rw [h2]; simp
    have Hbad := Lib.hid hbad
    have hcs : (b1.toNat : Int) < 1 ∨ ((1 : Int) ≤ (b1.toNat : Int) ∧ (8 : Int) < (b1.toNat : Int)) := by omega
    clear hbad hok
    rcases hcs with q | ⟨q, q2⟩
    all_goals
      go_enter Try.func75, Try.ntmps75
      go_wp2_with fail
      go_ret2
      exact ⟨none, 0, 0, by rw [Hbad.out]; rfl, Fr.refl _ _, fun h => by rw [Hbad.out] at h; cases h⟩
end Go.Proofs.Ytmcckppmciflmaa
