/-
  THE WALK of the reader's value.
-/
import Derived.Test.YthckgkghmlkcnaaDoorIsE
namespace Go.Proofs.YthckgkghmlkcnaaDoor
open Go.RowKit

def ValP (w0 : World) (r : Nat) (b : Bs) (n : Int) (w : World) (en : Ending) (w' : World) : Prop := ∃ (s : ByteArray) (b' : Bs), en = .returned (.string s) ∧ Rdr w0 r b' (readF b n).1 w' ∧ Fr (fun k => k = r) w w' ∧ ((readF b n).1 = 0 → s = strB (readF b n).2.1 ∧ b' = (readF b n).2.2)
theorem readV_dig {b : Bs} {kind : Int} {long : Nat} (hp : packedK kind = true) : readV b kind long = (unpE b long, if unpE b long = 0 then unpS b long else [], if unpE b long = 0 then b.drop ((long + 1) / 2) else []) := by
  unfold readV
  rw [if_pos hp]
  by_cases h : unpE b long = 0
  · rw [if_neg (by rw [h]; simp), if_pos h, if_pos h, h]
  · rw [if_pos h, if_neg h, if_neg h]
set_option maxRecDepth 100000 in
set_option maxHeartbeats 1600000 in
theorem rvalue_any {w0 w : World} {r : Nat} {b : Bs} (h : Rdr w0 r b 0 w) (n : Int) (hf : fmtOk n = true) : Calls Tryd.prog 29 #[.pointer (some ⟨r, 0, none⟩), .int .i64 n] w (ValP w0 r b n w) := by
  have HR := Lib.hid h
  have F := fmt_facts hf
  have hl1 := F.l1
  have hl9 := F.l9
  obtain ⟨kd, hkd⟩ : ∃ x, kindOf n = x := ⟨_, rfl⟩
  obtain ⟨lg, hlg⟩ : ∃ x, longOf n = x := ⟨_, rfl⟩
  obtain ⟨a, ha⟩ : ∃ x, ah n = x := ⟨_, rfl⟩
  have HFm := Lib.hid (fun W => format_any n W)
  unfold FmtP at HFm
  rw [hkd, hlg] at HFm
  have haK : ahK kd lg = a := by rw [← ha, ← hkd, ← hlg]; rfl
  have HAh := Lib.hid (fun W => ahead_any kd lg W)
  rw [haK] at HAh
  have HPk := Lib.hid (fun W => packed_any kd W)
  obtain ⟨pk, hpk⟩ : ∃ p, packedK kd = p := ⟨_, rfl⟩
  rw [hpk] at HPk
  have Hpk := Lib.hid hpk
  obtain ⟨RF, hRF⟩ : ∃ x, readF b n = x := ⟨_, rfl⟩
  have HRF := Lib.hid (show RF = if 0 < a then (if unpE b a ≠ 0 then (unpE b a, [], []) else if numB (unpS b a) = 0 then (4, [], []) else if lg < numB (unpS b a) then (2, [], []) else readV (b.drop ((a + 1) / 2)) kd (numB (unpS b a))) else readV b kd lg.toNat by rw [← hRF]; unfold readF; rw [ha, hlg, hkd])
  have ha1 : 0 < a → a = 2 ∨ a = 3 := fun h => by
    have := (F.a1 (by rw [ha]; exact h)).2.1
    rw [ha] at this
    exact this
  rw [hlg] at hl1 hl9
  unfold ValP
  rw [hRF]
  have HA1 := Lib.hid ha1
  have haS : (0 : Int) ≤ (a : Int) := by omega
  clear h hf F hkd hlg ha haK hpk hRF ha1
  go_enter Tryd.func29, Tryd.ntmps29
  go_wp2_with fail
  refine (HFm.out _).mono ?_
  rintro e w1 ⟨rfl, rfl⟩
  go_wp2_with fail
  refine (HAh.out _).mono ?_
  rintro e w1 ⟨rfl, rfl⟩
  go_upto_if 20 with fail
  go_cut [6] from 20 to 24 (fun s6 wx => ∃ (lg : Nat) (b1 : Bs) (e1 : Int), s6 = .int .i64 (lg : Int) ∧ lg ≤ 999 ∧ Hid (Rdr w0 r b1 e1 wx ∧ Fr (fun k => k = r) w wx ∧ (e1 ≠ 0 → RF.1 = e1) ∧ (e1 = 0 → RF = readV b1 kd lg ∧ 1 ≤ lg)))
  case first =>
    by_cases hp : 0 < a
    · have hpI : (0 : Int) < (a : Int) := by omega
      have HC := Lib.hid (count_any HR.out a (HA1.out hp) lg)
      unfold CountP at HC
      have hR2 := HRF.out
      rw [if_pos hp] at hR2
      have hc9 : countC b a ≤ 999 := by
        unfold countC
        split
        · rename_i hu
          obtain ⟨-, -, -, hdig, hlen⟩ := pack_unp hu
          have h1 := numB_lt _ hdig
          have h2 : 10 ^ (unpS b a).length ≤ 1000 := by rw [hlen]; rcases HA1.out hp with rfl | rfl <;> decide
          omega
        · omega
      have HFin := Lib.hid (show (countE b a lg ≠ 0 → RF.1 = countE b a lg) ∧ (countE b a lg = 0 → RF = readV (b.drop (unpN b a)) kd (countC b a) ∧ 1 ≤ countC b a) by
        unfold countE
        by_cases hu : unpE b a = 0
        · have e1 : (if unpE b a ≠ 0 then unpE b a else if numB (unpS b a) = 0 then 4 else if lg < numB (unpS b a) then 2 else 0) = (if numB (unpS b a) = 0 then (4 : Int) else if lg < numB (unpS b a) then 2 else 0) := if_neg (by rw [hu]; simp)
          have e2 : countC b a = numB (unpS b a) := if_pos hu
          have e3 : unpN b a = (a + 1) / 2 := if_pos hu
          rw [e1, e2, e3]
          rw [if_neg (by rw [hu]; simp)] at hR2
          by_cases h0 : numB (unpS b a) = 0
          · rw [if_pos h0] at hR2 ⊢
            exact ⟨fun _ => by rw [hR2], fun h => absurd h (by decide)⟩
          · rw [if_neg h0] at hR2 ⊢
            by_cases hl : lg < numB (unpS b a)
            · rw [if_pos hl] at hR2 ⊢
              exact ⟨fun _ => by rw [hR2], fun h => absurd h (by decide)⟩
            · rw [if_neg hl] at hR2 ⊢
              exact ⟨fun h => absurd rfl h, fun _ => ⟨hR2, by omega⟩⟩
        · rw [if_pos hu] at hR2 ⊢
          exact ⟨fun _ => by rw [hR2], fun h => absurd h hu⟩)
      clear hR2 hp
      generalize countE b a lg = ce at *
      generalize countC b a = cc at *
      generalize b.drop (unpN b a) = b2 at *
      go_wp2_with fail
      refine HC.out.mono ?_
      rintro e w2 ⟨rfl, hR2, hF2⟩
      have H2 := Lib.hid (And.intro hR2 hF2)
      clear hR2 hF2
      go_wp2_with fail
      go_meet
      exact ⟨cc, b2, ce, rfl, hc9, Lib.hid ⟨H2.out.1, H2.out.2, HFin.out.1, HFin.out.2⟩⟩
    · have hpI : (a : Int) = 0 := by omega
      have hR2 := HRF.out
      rw [if_neg hp] at hR2
      have HR2 := Lib.hid hR2
      obtain ⟨lgN, rfl⟩ : ∃ m : Nat, lg = (m : Int) := ⟨lg.toNat, by omega⟩
      clear hR2 hp
      go_wp2_with fail
      go_meet
      exact ⟨lgN, b, 0, rfl, by omega, Lib.hid ⟨HR.out, Fr.refl _ _, fun h => absurd rfl h, fun _ => ⟨by rw [HR2.out]; rfl, by omega⟩⟩⟩
  obtain ⟨lg, b1, e1, rfl, hlg9, H1⟩ := hcut
  obtain ⟨ao, cap, c0, c1, z, -⟩ := H1.out.1.cells
  clear HRF HA1 HAh HFm HR c0 z hl1 hl9
  by_cases he : e1 = 0
  · subst he
    have hRV := (H1.out.2.2.2 rfl).1
    have hlg1 := (H1.out.2.2.2 rfl).2
    cases pk with
    | true =>
      have HD := Lib.hid (rdigits_any H1.out.1 lg hlg1 hlg9)
      unfold DigP at HD
      have HRV := Lib.hid (hRV.trans (readV_dig Hpk.out))
      clear hRV
      go_wp2_with fail
      refine (HPk.out _).mono ?_
      rintro e w3 ⟨rfl, rfl⟩
      go_wp2_with fail
      refine HD.out.mono ?_
      rintro e w4 ⟨rfl, hR4, hF4⟩
      have H4 := Lib.hid (And.intro hR4 hF4)
      clear hR4 hF4
      go_wp2_with fail
      go_ret
      refine ⟨_, _, rfl, by rw [HRV.out]; exact H4.out.1, H1.out.2.1.trans H4.out.2 (fun k hk => .inl hk), fun h => ?_⟩
      rw [HRV.out] at h ⊢
      have h' : unpE b1 lg = 0 := h
      exact ⟨by show strB (unpT b1 lg) = strB (if unpE b1 lg = 0 then unpS b1 lg else []); rfl, by show b1.drop (unpN b1 lg) = (if unpE b1 lg = 0 then b1.drop ((lg + 1) / 2) else []); unfold unpN; rw [if_pos h', if_pos h']⟩
    | false =>
      have HT := Lib.hid (take_any H1.out.1 lg hlg1 hlg9)
      have HRV := Lib.hid hRV
      clear hRV
      go_wp2_with fail
      refine (HPk.out _).mono ?_
      rintro e w3 ⟨rfl, rfl⟩
      go_wp2_with fail
      refine HT.out.mono ?_
      rintro e w4 ⟨⟨sa, sn, sc⟩, rfl, h1, h2, h3, h4, h5, h6, h7⟩
      simp only at h1 h2 h4 h5
      subst h1
      have hcv := conv_rd h4 sc
      rw [h3] at hcv
      have H4 := Lib.hid (And.intro h6 h7)
      obtain ⟨ao', cap', d0, d1, z, -⟩ := h6.cells
      have z1 := z 1
      have HO := Lib.hid (fun W => other_any (strB (takeX b1 0 sn)) kd W (by rw [strB_size, h3]; unfold maxLen; omega))
      rw [show bl (strB (takeX b1 0 sn)) = takeX b1 0 sn from rfl] at HO
      unfold SV.val
      dsimp only
      clear h2 h3 h4 h5 h6 h7 d0 z
      by_cases hl : b1.length < sn
      · have hE : takeE b1 0 sn = 3 := by unfold takeE; rw [if_neg (by simp), if_pos hl]
        have hR3 : RF = (3, [], []) := by rw [HRV.out]; unfold readV; rw [if_neg (by rw [Hpk.out]; simp), if_pos hl]
        rw [hE] at d1 H4
        have HR3 := Lib.hid hR3
        clear hE hR3 hl
        go_wp2_with fail
        go_ret
        exact ⟨_, _, rfl, by rw [HR3.out]; exact H4.out.1, H1.out.2.1.trans H4.out.2 (fun k hk => .inl hk), fun h => by rw [HR3.out] at h; exact absurd h (by decide)⟩
      · have hE : takeE b1 0 sn = 0 := by unfold takeE; rw [if_neg (by simp), if_neg hl]
        have hX : takeX b1 0 sn = b1.take sn := by unfold takeX; rw [if_pos hE]
        have hB : takeB b1 0 sn = b1.drop sn := by unfold takeB; rw [if_pos hE]
        rw [hE, hB] at H4
        rw [hE] at d1
        rw [hX] at HO hcv
        have hR3 : RF = if otherB (b1.take sn) kd = true then (4, [], []) else (0, b1.take sn, b1.drop sn) := by rw [HRV.out]; unfold readV; rw [if_neg (by rw [Hpk.out]; simp), if_neg hl]
        have HS := Lib.hid (H4.out.1.setE 4)
        cases ho : otherB (b1.take sn) kd with
        | true =>
          rw [ho, if_pos rfl] at hR3
          rw [ho] at HO
          have HR3 := Lib.hid hR3
          clear hE hX hB hR3 hl ho
          go_wp2_with fail
          refine (HO.out _).mono ?_
          rintro e w5 ⟨rfl, rfl⟩
          go_wp2_with fail
          go_ret
          exact ⟨_, _, rfl, by rw [HR3.out]; exact HS.out.1, (H1.out.2.1.trans H4.out.2 (fun k hk => .inl hk)).trans HS.out.2 (fun k hk => .inl hk), fun h => by rw [HR3.out] at h; exact absurd h (by decide)⟩
        | false =>
          rw [ho, if_neg (by simp)] at hR3
          rw [ho] at HO
          have HR3 := Lib.hid hR3
          clear hE hX hB hR3 hl ho
          go_wp2_with fail
          refine (HO.out _).mono ?_
          rintro e w5 ⟨rfl, rfl⟩
          go_wp2_with fail
          go_ret
          exact ⟨_, _, rfl, by rw [HR3.out]; exact H4.out.1, H1.out.2.1.trans H4.out.2 (fun k hk => .inl hk), fun _ => by rw [HR3.out]; exact ⟨rfl, rfl⟩⟩
  · have hb0 : (e1 != 0) = true := by simpa using he
    have He := Lib.hid he
    clear he
    go_wp2_with fail
    go_ret
    exact ⟨_, b1, rfl, by rw [H1.out.2.2.1 He.out]; exact H1.out.1, H1.out.2.1, fun h => absurd ((H1.out.2.2.1 He.out).symm.trans h) He.out⟩
end Go.Proofs.YthckgkghmlkcnaaDoor
