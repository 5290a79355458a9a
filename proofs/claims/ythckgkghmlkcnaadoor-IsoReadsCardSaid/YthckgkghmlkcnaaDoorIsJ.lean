/-
  THE WALK of the document's field.
-/
import Derived.Test.YthckgkghmlkcnaaDoorIsG
import Derived.Test.YthckgkghmlkcnaaDoorIsH
import Derived.Test.YthckgkghmlkcnaaDoorIsI
import Derived.Test.YthckgkghmlkcnaaDoorIsF
import Derived.Deep.CutBlock
namespace Go.Proofs.YthckgkghmlkcnaaDoor
open Go.RowKit

def RFieldP (b : Bs) (at_ : Nat) (n : Int) (w : World) (e : Ending) (w' : World) : Prop := ∃ (s : ByteArray) (k : Nat), e = .returned (.tuple #[.string s, .int .i64 k, .int .i64 (readF (b.drop at_) n).1]) ∧ Fr noBlock w w' ∧ ((readF (b.drop at_) n).1 = 0 → s = strB (readF (b.drop at_) n).2.1 ∧ b.drop (at_ + k) = (readF (b.drop at_) n).2.2 ∧ at_ + k ≤ b.length)
theorem RFieldP.bad {b : Bs} {at_ : Nat} {n x : Int} {w w' : World} (h : (readF (b.drop at_) n).1 = x) (hx : x ≠ 0) (f : Fr noBlock w w') : RFieldP b at_ n w (.returned (.tuple #[.string ⟨#[]⟩, .int .i64 0, .int .i64 x])) w' :=
  ⟨⟨#[]⟩, 0, by rw [h]; rfl, f, fun h0 => absurd (h.symm.trans h0) hx⟩
theorem RFieldP.good {b : Bs} {at_ at1 k : Nat} {n : Int} {w w' : World} {v : Bs} (h : readF (b.drop at_) n = (0, v, b.drop (at1 + k))) (h1 : at_ ≤ at1) (hl : at1 + k ≤ b.length) (f : Fr noBlock w w') : RFieldP b at_ n w (.returned (.tuple #[.string (strB v), .int .i64 ((at1 : Int) + (k : Int) - (at_ : Int)), .int .i64 0])) w' := by
  refine ⟨strB v, at1 + k - at_, ?_, f, fun _ => ?_⟩
  · rw [h]
    have : ((at1 + k - at_ : Nat) : Int) = (at1 : Int) + (k : Int) - (at_ : Int) := by omega
    rw [this]
  · rw [h]
    refine ⟨rfl, ?_, by omega⟩
    rw [show at_ + (at1 + k - at_) = at1 + k by omega]
/-- a piece from a place on, wherever it lies -/
theorem RowRd.from' {w : World} {bb off cap at1 : Nat} {b : Bs} (_ : RowRd ByteR w (some ⟨bb, off, none⟩) b) (hc : b.length ≤ cap) (hcn : cap = at1) : RowRd ByteR w (some ⟨bb, off, none⟩) (b.drop at1) := by
  rw [List.drop_eq_nil_of_le (by omega)]
  exact RowRd.empty
set_option maxRecDepth 100000 in
set_option maxHeartbeats 6400000 in
theorem rfield_any {w : World} {bb off : Nat} {b : Bs} (h : RowRd ByteR w (some ⟨bb, off, none⟩) b) (cap : Nat) (hc : b.length ≤ cap) (hb63 : cap ≤ 9223372036854775807) (at_ : Nat) (ha : at_ ≤ b.length) (hb40 : b.length ≤ 140737488351232) (n : Int) (hf : fmtOk n = true) :
    Calls Tryd.prog 32 #[.slice (some ⟨bb, off, none⟩) b.length cap, .int .i64 at_, .int .i64 n] w (RFieldP b at_ n w) := by
  have HR := Lib.hid h
  have F := fmt_facts hf
  have hl1 := F.l1
  have hl9 := F.l9
  obtain ⟨kd, hkd⟩ : ∃ x, kindOf n = x := ⟨_, rfl⟩
  obtain ⟨lg, hlg⟩ : ∃ x, longOf n = x := ⟨_, rfl⟩
  obtain ⟨a, ha'⟩ : ∃ x, ah n = x := ⟨_, rfl⟩
  have HFm := Lib.hid (fun W => rformat_any n W)
  unfold FmtP at HFm
  rw [hkd, hlg] at HFm
  have haK : ahK kd lg = a := by rw [← ha', ← hkd, ← hlg]; rfl
  have HAh := Lib.hid (fun W => rahead_any kd lg W)
  rw [haK] at HAh
  obtain ⟨RF, hRF⟩ : ∃ x, readF (b.drop at_) n = x := ⟨_, rfl⟩
  have HRF := Lib.hid hRF
  have HRF2 := Lib.hid (show RF = if 0 < a then (if unpE (b.drop at_) a ≠ 0 then (unpE (b.drop at_) a, [], []) else if numB (unpS (b.drop at_) a) = 0 then (4, [], []) else if lg < numB (unpS (b.drop at_) a) then (2, [], []) else readV ((b.drop at_).drop ((a + 1) / 2)) kd (numB (unpS (b.drop at_) a))) else readV (b.drop at_) kd lg.toNat by rw [← hRF]; unfold readF; rw [ha', hlg, hkd])
  have HA1 := Lib.hid (show 0 < a → a = 2 ∨ a = 3 from fun h => by
    have := (F.a1 (by rw [ha']; exact h)).2.1
    rw [ha'] at this
    exact this)
  rw [hlg] at hl1 hl9
  have haS : (0 : Int) ≤ (a : Int) := by omega
  have hat0 : (0 : Int) ≤ (at_ : Int) := by omega
  have hatl : (at_ : Int) ≤ (b.length : Int) := by omega
  have hatc : (at_ : Int) ≤ (cap : Int) := by omega
  have hbc : (b.length : Int) ≤ (cap : Int) := by omega
  have hbI : (b.length : Int) ≤ 140737488351232 := by omega
  clear h hf F hkd hlg ha' haK hRF
  go_enter Tryd.func32, Tryd.ntmps32
  go_wp2_with fail
  (with_reducible refine (HFm.out _).mono ?_)
  rintro e w1 ⟨rfl, rfl⟩
  go_wp2_with fail
  (with_reducible refine (HAh.out _).mono ?_)
  rintro e w1 ⟨rfl, rfl⟩
  go_upto_if 37 with fail
  go_cut [1, 10, 14, 15, 16, 17, 18] from 37 to 63 (fun s1 s10 s14 s15 s16 s17 s18 wx => ∃ at1 lg1 : Nat, s1 = .int .i64 at1 ∧ s10 = .int .i64 lg1 ∧ at1 ≤ b.length ∧ lg1 ≤ 999 ∧ 1 ≤ lg1 ∧ at_ ≤ at1 ∧ Hid (Fr noBlock w wx ∧ RF = readV (b.drop at1) kd lg1))
  case first =>
    by_cases hp : 0 < a
    · have hpI : (0 : Int) < (a : Int) := by omega
      have hR2 := HRF2.out
      rw [if_pos hp] at hR2
      have HU := Lib.hid (fun (so : Option Addr) (sc : Nat) (hr : RowRd ByteR w so (b.drop at_)) (hl : (b.drop at_).length ≤ sc) (h63 : sc ≤ 9223372036854775807) => runpack_any hr sc a hl h63 (by have := HA1.out hp; omega) (by have := HA1.out hp; omega))
      unfold UnpP at HU
      rw [List.length_drop] at HU
      by_cases hu : unpE (b.drop at_) a = 0
      · obtain ⟨-, hal, -, hdig, hlen⟩ := pack_unp hu
        have hT : unpT (b.drop at_) a = unpS (b.drop at_) a := by unfold unpT; rw [if_pos hu]
        have hN : unpN (b.drop at_) a = (a + 1) / 2 := by unfold unpN; rw [if_pos hu]
        have HN := Lib.hid (fun W => rnumber_any (strB (unpS (b.drop at_) a)) W hdig (by rw [strB_size, hlen]; omega) (by rw [strB_size, hlen]; have := HA1.out hp; omega))
        rw [show bl (strB (unpS (b.drop at_) a)) = unpS (b.drop at_) a from rfl] at HN
        have hc1000 := numB_lt _ hdig
        have hc10 : 10 ^ (unpS (b.drop at_) a).length ≤ 1000 := by rw [hlen]; rcases HA1.out hp with rfl | rfl <;> decide
        rw [hu, hT, hN] at HU
        rw [if_neg (by rw [hu]; simp)] at hR2
        generalize strB (unpS (b.drop at_) a) = sv at *
        generalize numB (unpS (b.drop at_) a) = c at *
        have hcI : (c : Int) < 1000 := by omega
        rw [List.length_drop] at hal
        obtain ⟨k, hk⟩ : ∃ k, (a + 1) / 2 = k := ⟨_, rfl⟩
        rw [hk] at HU hR2 hal
        rw [List.drop_drop] at hR2
        have hkI : (at_ : Int) + (k : Int) ≤ 140737488351232 := by omega
        have Hal := Lib.hid (show at_ + k ≤ b.length by omega)
        have hk0 : 0 < k := by omega
        have hcn : ¬ cap = at_ := by omega
        have HRow := Lib.hid (RowRd.drop HR.out at_)
        have HU2 := Lib.hid (HU.out _ (cap - at_) HRow.out (by omega) (by omega))
        have HFF := Lib.hid hR2
        clear hu hT hN hdig hlen hc1000 hc10 hk hR2 hp hal HU
        go_wp2_with fail
        (with_reducible refine HU2.out.mono ?_)
        rintro e w3 ⟨rfl, f3⟩
        have HF3 := Lib.hid f3
        clear f3
        by_cases hc0 : c = 0
        · subst hc0
          have hE : RF = (4, [], []) := by rw [HFF.out, if_pos rfl]
          have HE := Lib.hid hE
          clear hE
          go_wp2_with fail
          (with_reducible refine (HN.out _).mono ?_)
          rintro e w4 ⟨rfl, rfl⟩
          go_wp2_with fail
          go_ret3
          exact RFieldP.bad (by rw [HRF.out, HE.out]) (by decide) HF3.out
        · have hc0I : ((c : Int) == 0) = false := by simp; omega
          by_cases hl : lg < (c : Int)
          · have hE : RF = (2, [], []) := by rw [HFF.out, if_neg hc0, if_pos hl]
            have HE := Lib.hid hE
            clear hE hc0
            go_wp2_with fail
            (with_reducible refine (HN.out _).mono ?_)
            rintro e w4 ⟨rfl, rfl⟩
            go_wp2_with fail
            go_ret3
            exact RFieldP.bad (by rw [HRF.out, HE.out]) (by decide) HF3.out
          · have hE : RF = readV (b.drop (at_ + k)) kd c := by rw [HFF.out, if_neg hc0, if_neg hl]
            have HE := Lib.hid hE
            have hl' : (c : Int) ≤ lg := by omega
            have hc1 : 1 ≤ c := by omega
            have hc9 : c ≤ 999 := by omega
            clear hE hc0 hl
            go_wp2_with fail
            (with_reducible refine (HN.out _).mono ?_)
            rintro e w4 ⟨rfl, rfl⟩
            go_wp2_with fail
            go_meet
            exact ⟨at_ + k, c, by go_num, rfl, Hal.out, hc9, hc1, Nat.le_add_right _ _, Lib.hid ⟨HF3.out, HE.out⟩⟩
      · rw [if_pos hu] at hR2
        have HE := Lib.hid (show RF.1 = unpE (b.drop at_) a by rw [hR2])
        have hT : unpT (b.drop at_) a = [] := by unfold unpT; rw [if_neg hu]
        have hN : unpN (b.drop at_) a = 0 := by unfold unpN; rw [if_neg hu]
        rw [hT, hN] at HU
        generalize unpE (b.drop at_) a = x at *
        have hx : (x != 0) = true := by simpa using hu
        have Hu := Lib.hid hu
        clear hR2 hT hN hu hp
        by_cases hcn : cap = at_
        · have HU2 := Lib.hid (HU.out (some ⟨bb, off, none⟩) 0 (RowRd.from' HR.out hc hcn) (by omega) (by omega))
          subst hcn
          rw [show b.length - cap = 0 by omega] at HU2
          clear HU
          go_wp2_with fail
          (with_reducible refine HU2.out.mono ?_)
          rintro e w3 ⟨rfl, f3⟩
          have HF3 := Lib.hid f3
          clear f3
          go_wp2_with fail
          go_ret3
          exact RFieldP.bad (by rw [HRF.out]; exact HE.out) Hu.out HF3.out
        · have HU2 := Lib.hid (HU.out _ (cap - at_) (RowRd.drop HR.out at_) (by omega) (by omega))
          clear HU
          go_wp2_with fail
          (with_reducible refine HU2.out.mono ?_)
          rintro e w3 ⟨rfl, f3⟩
          have HF3 := Lib.hid f3
          clear f3
          go_wp2_with fail
          go_ret3
          exact RFieldP.bad (by rw [HRF.out]; exact HE.out) Hu.out HF3.out
    · have hpI : (a : Int) = 0 := by omega
      have hR2 := HRF2.out
      rw [if_neg hp] at hR2
      obtain ⟨lgN, rfl⟩ : ∃ m : Nat, lg = (m : Int) := ⟨lg.toNat, by omega⟩
      have HR2 := Lib.hid (show RF = readV (b.drop at_) kd lgN from hR2)
      clear hR2 hp
      go_wp2_with fail
      go_meet
      exact ⟨at_, lgN, rfl, rfl, ha, by omega, by omega, Nat.le_refl _, Lib.hid ⟨Fr.refl _ _, HR2.out⟩⟩
  obtain ⟨at1, lg1, rfl, rfl, h1l, h19, h11, hle1, H1⟩ := hcut
  have HR1 := Lib.hid (HR.out.fr0 H1.out.1)
  have HF1 := Lib.hid H1.out.1
  have HV := Lib.hid H1.out.2
  have p0 : (0 : Int) ≤ (at1 : Int) := by omega
  have p1 : (at1 : Int) ≤ (b.length : Int) := by omega
  have p2 : (at1 : Int) ≤ (cap : Int) := by omega
  have p3 : (lg1 : Int) ≤ 999 := by omega
  have p4 : (1 : Int) ≤ (lg1 : Int) := by omega
  have p5 : (at_ : Int) ≤ (at1 : Int) := by omega
  clear H1 HRF2 HA1 HAh HFm hl1 hl9 HR
  by_cases hk : kd = 1 ∨ kd = 2
  · have hpk : packedK kd = true := by rw [packed_iff]; exact hk
    have hV := HV.out
    rw [readV_dig hpk] at hV
    have HU := Lib.hid (fun (so : Option Addr) (sc : Nat) (hr : RowRd ByteR wc so (b.drop at1)) (hl : (b.drop at1).length ≤ sc) (h63 : sc ≤ 9223372036854775807) => runpack_any hr sc lg1 hl h63 h11 h19)
    unfold UnpP at HU
    rw [List.length_drop] at HU
    by_cases hu : unpE (b.drop at1) lg1 = 0
    · obtain ⟨-, hal, -, hdig, hlen⟩ := pack_unp hu
      have hT : unpT (b.drop at1) lg1 = unpS (b.drop at1) lg1 := by unfold unpT; rw [if_pos hu]
      have hN : unpN (b.drop at1) lg1 = (lg1 + 1) / 2 := by unfold unpN; rw [if_pos hu]
      rw [hu, if_pos rfl, if_pos rfl, List.drop_drop] at hV
      rw [hu, hT, hN] at HU
      rw [List.length_drop] at hal
      obtain ⟨k, hkk⟩ : ∃ k, (lg1 + 1) / 2 = k := ⟨_, rfl⟩
      rw [hkk] at HU hV hal
      generalize unpS (b.drop at1) lg1 = us at *
      have hk5 : (k : Int) ≤ 500 := by omega
      have Hal := Lib.hid (show at1 + k ≤ b.length by omega)
      have hcn : ¬ cap = at1 := by omega
      have HU2 := Lib.hid (HU.out _ (cap - at1) (RowRd.drop HR1.out at1) (by omega) (by omega))
      have HV2 := Lib.hid hV
      clear hu hT hN hdig hlen hkk hV hal HU HV hpk
      rcases hk with rfl | rfl
      all_goals
        go_wp2_with fail
        (with_reducible refine HU2.out.mono ?_)
        rintro e w3 ⟨rfl, f3⟩
        have HF3 := Lib.hid (HF1.out.trans' f3)
        clear f3
        go_wp2_with fail
        go_ret3
        exact RFieldP.good (by rw [HRF.out]; exact HV2.out) hle1 Hal.out HF3.out
    · have hT : unpT (b.drop at1) lg1 = [] := by unfold unpT; rw [if_neg hu]
      have hN : unpN (b.drop at1) lg1 = 0 := by unfold unpN; rw [if_neg hu]
      have HE := Lib.hid (show RF.1 = unpE (b.drop at1) lg1 by rw [hV])
      rw [hT, hN] at HU
      generalize unpE (b.drop at1) lg1 = x at *
      have hx : (x != 0) = true := by simpa using hu
      have Hu := Lib.hid hu
      clear hV hT hN hu HV hpk
      by_cases hcn : cap = at1
      · have HU2 := Lib.hid (HU.out (some ⟨bb, off, none⟩) 0 (RowRd.from' HR1.out hc hcn) (by omega) (by omega))
        subst hcn
        rw [show b.length - cap = 0 by omega] at HU2
        clear HU
        rcases hk with rfl | rfl
        all_goals
          go_wp2_with fail
          (with_reducible refine HU2.out.mono ?_)
          rintro e w3 ⟨rfl, f3⟩
          have HF3 := Lib.hid (HF1.out.trans' f3)
          clear f3
          go_wp2_with fail
          go_ret3
          exact RFieldP.bad (by rw [HRF.out]; exact HE.out) Hu.out HF3.out
      · have HU2 := Lib.hid (HU.out _ (cap - at1) (RowRd.drop HR1.out at1) (by omega) (by omega))
        clear HU
        rcases hk with rfl | rfl
        all_goals
          go_wp2_with fail
          (with_reducible refine HU2.out.mono ?_)
          rintro e w3 ⟨rfl, f3⟩
          have HF3 := Lib.hid (HF1.out.trans' f3)
          clear f3
          go_wp2_with fail
          go_ret3
          exact RFieldP.bad (by rw [HRF.out]; exact HE.out) Hu.out HF3.out
  · have hpk : ¬ packedK kd = true := by rw [packed_iff]; exact hk
    have hk1 : (kd == 1) = false := by simp; omega
    have hk2 : (kd == 2) = false := by simp; omega
    have hV := HV.out
    unfold readV at hV
    rw [if_neg hpk] at hV
    have HT := Lib.hid (rtake_any HR1.out cap hc hb63 at1 lg1 h1l h19)
    have Hk := Lib.hid hk
    clear hk hpk HV
    go_wp2_with fail
    (with_reducible refine HT.out.mono ?_)
    rintro e w3 ⟨so, sn, sc, x, rfl, rfl, hx⟩
    rcases hx with ⟨rfl, hlx⟩ | ⟨rfl, hlx, rfl, hrow⟩
    · rw [if_pos (by rw [List.length_drop]; omega)] at hV
      have HE := Lib.hid hV
      clear hV hlx
      go_wp2_with fail
      go_ret3
      exact RFieldP.bad (by rw [HRF.out, HE.out]) (by decide) HF1.out
    · rw [if_neg (by rw [List.length_drop]; omega)] at hV
      obtain ⟨P, hP⟩ : ∃ P, (b.drop at1).take sn = P := ⟨_, rfl⟩
      have hPl : P.length = sn := by rw [← hP, List.length_take, List.length_drop]; omega
      rw [hP] at hV hrow
      rw [List.drop_drop] at hV
      have HV := Lib.hid hV
      have Hlx := Lib.hid hlx
      have hcv := conv_rd hrow sc
      rw [hPl] at hcv
      have HRow := Lib.hid hrow
      have HPl := Lib.hid hPl
      clear hV hlx hP hrow hPl
      go_wp2_with fail
      go_loop [24] (fun s24 => ∃ i : Nat, i ≤ sn ∧ s24 = .int .i64 i ∧ Hid (otherB (P.take i) kd = false)) (fun s24 => sn - (intOf s24).toNat)
      case atStart => exact ⟨0, Nat.zero_le _, rfl, Lib.hid rfl⟩
      case round =>
        obtain ⟨i, hi, rfl, HI⟩ := hrel
        by_cases hlt : i < sn
        · have r1 : (i : Int) < (sn : Int) := by omega
          have r0 : (0 : Int) ≤ (i : Int) := by omega
          have hi1 : i + 1 ≤ sn := hlt
          have hib : i < P.length := by rw [HPl.out]; exact hlt
          obtain ⟨pb, po, rfl, hpb⟩ := byte_addr HRow.out hib
          have y0 := byte_rd HRow.out hib
          have hst : otherB (P.take (i + 1)) kd = (otherB (P.take i) kd || badC kd P[i]) := by
            unfold otherB
            rw [List.take_succ_eq_append_getElem hib, List.any_append]
            simp
          have hbad : badC kd P[i] = true → otherB P kd = true := fun hb => by
            unfold otherB
            rw [List.any_eq_true]
            exact ⟨P[i], List.getElem_mem hib, hb⟩
          rw [HI.out, Bool.false_or] at hst
          have hbc2 : badC kd P[i] = if kd = 5 then false else !isSign P[i] := by
            unfold badC
            split
            · rfl
            · rw [if_neg Hk.out]
          unfold byteV at y0
          obtain ⟨bbv, hbb⟩ : ∃ v, (decide ((32 : Int) ≤ (P[i].toNat : Int)) && decide ((P[i].toNat : Int) ≤ 126)) = v := ⟨_, rfl⟩
          have HD := Lib.hid (rsign_any (P[i].toNat : Int))
          rw [hbb] at HD
          have hsg : isSign P[i] = bbv := by
            rw [← hbb]
            unfold isSign
            congr 1 <;> (apply decide_eq_decide.2; omega)
          rw [hsg] at hbc2
          have HSt := Lib.hid hst
          have HBad := Lib.hid hbad
          have HBc := Lib.hid hbc2
          clear hst hbad hbc2 hbb hsg
          generalize P[i] = c at *
          clear hlt hib
          generalize (c.toNat : Int) = c8 at *
          by_cases h5 : kd = 5
          · subst h5
            have HN := Lib.hid (show otherB (P.take (i + 1)) 5 = false by rw [HSt.out, HBc.out]; rfl)
            go_wp2_with fail
            (with_reducible refine (HD.out _).mono ?_)
            rintro e w4 ⟨rfl, rfl⟩
            go_wp2_with fail
            go_round
            case rel => exact ⟨i + 1, hi1, by go_num, HN⟩
            case measure => simp [intOf]; omega
          · have h5b : (kd != 5) = true := by simpa using h5
            cases bbv with
            | true =>
              have HN := Lib.hid (show otherB (P.take (i + 1)) kd = false by rw [HSt.out, HBc.out, if_neg h5]; rfl)
              clear h5
              go_wp2_with fail
              (with_reducible refine (HD.out _).mono ?_)
              rintro e w4 ⟨rfl, rfl⟩
              go_wp2_with fail
              go_round
              case rel => exact ⟨i + 1, hi1, by go_num, HN⟩
              case measure => simp [intOf]; omega
            | false =>
              have HE := Lib.hid (show RF = (4, [], []) by rw [HV.out, if_pos (HBad.out (by rw [HBc.out, if_neg h5]; rfl))])
              clear h5
              go_wp2_with fail
              (with_reducible refine (HD.out _).mono ?_)
              rintro e w4 ⟨rfl, rfl⟩
              go_wp2_with fail
              go_ret3
              exact RFieldP.bad (by rw [HRF.out, HE.out]) (by decide) HF1.out
        · have r1 : (sn : Int) ≤ (i : Int) := by omega
          have hno : otherB P kd = false := by
            have := HI.out
            rwa [List.take_of_length_le (by rw [HPl.out]; omega)] at this
          have HE := Lib.hid (show RF = (0, P, b.drop (at1 + sn)) by rw [HV.out, if_neg (by rw [hno]; simp)])
          clear hno hlt
          go_wp2_with fail
          go_ret3
          exact RFieldP.good (by rw [HRF.out]; exact HE.out) hle1 Hlx.out HF1.out
end Go.Proofs.YthckgkghmlkcnaaDoor
