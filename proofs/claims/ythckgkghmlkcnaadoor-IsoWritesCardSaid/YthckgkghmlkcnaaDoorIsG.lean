/-
  THE WALK of the document's Unpack.
-/
import Derived.Deep.RegionLaw
import Derived.StillTailTactics
import Derived.Deep.QuietTactic
import Derived.BigQuiet
import Derived.Test.YthckgkghmlkcnaaDoorDgU
import Derived.Test.YthckgkghmlkcnaaDoorDgA
namespace Go.Proofs.YthckgkghmlkcnaaDoor
open Go.RowKit

theorem strB_cat (a b : Bs) : strB a ++ strB b = strB (a ++ b) := by
  apply toList_inj'
  rw [strB_list, ByteArray.toList_eq, ByteArray.data_append, Array.toList_append]
  rfl
theorem strB_cut (l : Bs) (k : Nat) : (strB l).extract k (strB l).size = strB (l.drop k) := by
  apply toList_inj'
  rw [strB_list, ByteArray.toList_eq]
  simp [strB, ByteArray.data_extract]
  show List.take (l.toArray.size - k) (List.drop k l) = List.drop k l
  rw [List.take_of_length_le (by simp)]
theorem conv_new2 (W : World) (x y : UInt8) : (convert 22 9 (.slice (some ⟨W.heap.size, 0, none⟩) 2 2)).run Tryd.prog (W.alloc (.cells #[.int .u8 (x.toNat : Int), .int .u8 (y.toNat : Int)] 5)) = .ok (.string (strB [x, y])) (W.alloc (.cells #[.int .u8 (x.toNat : Int), .int .u8 (y.toNat : Int)] 5)) := by
  have h := conv_rd (bs := [x, y]) (RowRd.of_flat (heap_new W (.cells #[.int .u8 (x.toNat : Int), .int .u8 (y.toNat : Int)] 5)) rfl (by unfold maxLen; simp)) 2
  exact h
theorem wrap_u8 (c : UInt8) : IntKind.u8.wrap (c.toNat : Int) = (c.toNat : Int) := by
  have := c.toNat_lt
  simp [IntKind.wrap, IntKind.bits, IntKind.signed]
  omega
theorem hi_add {c : UInt8} (h : c.toNat / 16 ≤ 9) : IntKind.u8.wrap (48 + (c.toNat : Int) / 16) = ((hiD c).toNat : Int) ∧ 48 + (c.toNat : Int) / 16 = ((hiD c).toNat : Int) := by
  have e : 48 + (c.toNat : Int) / 16 = ((hiD c).toNat : Int) := by
    unfold hiD
    rw [UInt8.toNat_ofNat']
    omega
  refine ⟨?_, e⟩
  rw [← e]
  simp [IntKind.wrap, IntKind.bits, IntKind.signed]
  omega
theorem lo_add {c : UInt8} (h : c.toNat % 16 ≤ 9) : IntKind.u8.wrap (48 + (c.toNat : Int) % 16) = ((loD c).toNat : Int) ∧ 48 + (c.toNat : Int) % 16 = ((loD c).toNat : Int) := by
  have e : 48 + (c.toNat : Int) % 16 = ((loD c).toNat : Int) := by
    unfold loD
    rw [UInt8.toNat_ofNat']
    omega
  refine ⟨?_, e⟩
  rw [← e]
  simp [IntKind.wrap, IntKind.bits, IntKind.signed]
  omega
set_option maxRecDepth 100000 in
set_option maxHeartbeats 3200000 in
theorem runpack_any {w : World} {ao : Option Addr} {b : Bs} (h : RowRd ByteR w ao b) (cap n : Nat) (hc : b.length ≤ cap) (hb63 : cap ≤ 9223372036854775807) (hn1 : 1 ≤ n) (hn9 : n ≤ 999) : Calls Tryd.prog 30 #[.slice ao b.length cap, .int .i64 n] w (UnpP b n w) := by
  have HR := Lib.hid h
  have q1 : (1 : Int) ≤ (n : Int) := by omega
  have q9 : (n : Int) ≤ 999 := by omega
  obtain ⟨m, hm⟩ : ∃ m : Nat, (n + 1) / 2 = m := ⟨_, rfl⟩
  have hmI : ((n : Int) + 1) / 2 = (m : Int) := by omega
  by_cases hs : b.length < m
  · have hE : unpE b n = 3 := by unfold unpE; rw [if_neg (by omega), hm, if_pos hs]
    have HE := Lib.hid hE
    have hsI : (b.length : Int) < (m : Int) := by omega
    clear h hE hm hs
    go_enter Tryd.func30, Tryd.ntmps30
    go_wp2_with fail
    go_ret3
    exact unp_bad HE.out (by decide) (Fr.refl _ _)
  · have hsI : (m : Int) ≤ (b.length : Int) := by omega
    have hm1 : 1 ≤ m := by omega
    have hm5 : m ≤ 500 := by omega
    have hbl : m ≤ b.length := by omega
    have hE0 : unpE b n = if (b.take m).all okN = false then 4 else if n % 2 = 1 ∧ (unpairs (b.take m)).getD 0 0 ≠ 48 then 4 else 0 := by unfold unpE; rw [if_neg (by omega), hm, if_neg hs]
    have HE0 := Lib.hid hE0
    have Hm := Lib.hid hm
    have hmI5 : (m : Int) ≤ 500 := by omega
    have hd1 : decide (b.length < m) = false := by simp; omega
    have hd2 : decide ((n : Int) < 0) = false := by simp
    have hd3 : decide ((999 : Int) < (n : Int)) = false := by simp; omega
    clear h hm hs hE0
    go_enter Tryd.func30, Tryd.ntmps30
    go_wp2_with fail
    rw [hmI]
    clear hmI
    go_loopw [8, 9] (fun s8 s9 wr => ∃ i : Nat, i ≤ m ∧ s9 = .int .i64 i ∧ s8 = .string (strB (unpairs (b.take i))) ∧ Hid (Fr noBlock w wr ∧ (b.take i).all okN = true)) (fun _ s9 _ => m - (intOf s9).toNat)
    case atStart => exact ⟨0, Nat.zero_le _, rfl, rfl, Lib.hid ⟨Fr.refl _ _, rfl⟩⟩
    case round =>
      obtain ⟨i, hi, rfl, rfl, HI⟩ := hrel
      by_cases hlt : i < m
      · have r1 : (i : Int) < (m : Int) := by omega
        have r0 : (0 : Int) ≤ (i : Int) := by omega
        have hi1 : i + 1 ≤ m := hlt
        have hib : i < b.length := by omega
        have r2 : (i : Int) < (b.length : Int) := by omega
        obtain ⟨bb, off, rfl, hbb⟩ := byte_addr HR.out hib
        have y0 := byte_rd (HR.out.fr0 HI.out.1) hib
        have htk : b.take (i + 1) = b.take i ++ [b[i]] := List.take_succ_eq_append_getElem hib
        have hup : unpairs (b.take (i + 1)) = unpairs (b.take i) ++ [hiD b[i], loD b[i]] := by rw [htk, unpairs_snoc]
        have hall : ((b.take (i + 1)).all okN) = okN b[i] := by rw [htk, List.all_append, HI.out.2]; simp
        have hmono : okN b[i] = false → (b.take m).all okN = false := fun hf => by
          rw [List.all_eq_false]
          exact ⟨b[i], by rw [List.mem_take_iff_getElem]; exact ⟨i, by omega, rfl⟩, by simpa using hf⟩
        have hc256 := b[i].toNat_lt
        have hsz : (strB (unpairs (b.take i))).size = 2 * i := by rw [strB_size, unpairs_len, List.length_take]; omega
        generalize b[i] = c at *
        unfold byteV at y0
        by_cases k1 : c.toNat / 16 ≤ 9
        · have k1I : (c.toNat : Int) / 16 ≤ 9 := by omega
          by_cases k2 : c.toNat % 16 ≤ 9
          · have k2I : (c.toNat : Int) % 16 ≤ 9 := by omega
            obtain ⟨n1, m1⟩ := hi_add k1
            obtain ⟨n2, m2⟩ := lo_add k2
            have Hall := Lib.hid (show (b.take (i + 1)).all okN = true from hall.trans (by unfold okN; simp [k1, k2]))
            have hnx := strB_cat (unpairs (b.take i)) [hiD c, loD c]
            rw [← hup] at hnx
            have Hnx := Lib.hid hnx
            have cn := conv_new2 wr (hiD c) (loD c)
            have cn2 := conv_rd (bs := [hiD c, loD c]) ((RowRd.of_flat (heap_new wr (.cells #[.int .u8 ((hiD c).toNat : Int), .int .u8 ((loD c).toNat : Int)] 5)) rfl (by unfold maxLen; simp)).fr0 ((Fr.refl noBlock _).drew)) 2
            rw [show ([hiD c, loD c] : Bs).length = 2 from rfl] at cn2
            have HF2 := Lib.hid (And.intro ((HI.out.1.alloc (.cells #[.int .u8 ((hiD c).toNat : Int), .int .u8 ((loD c).toNat : Int)] 5)).drew) Hall.out)
            obtain ⟨S, hS⟩ : ∃ S, strB (unpairs (b.take i)) = S := ⟨_, rfl⟩
            rw [hS] at Hnx hsz ⊢
            have hszI : (S.size : Int) ≤ 1000 := by omega
            have hszN : S.size ≤ 1000 := by omega
            have w3 := wrap_u8 (hiD c)
            have w4 := wrap_u8 (loD c)
            clear n1 n2
            have w1 : IntKind.u8.wrap ((c.toNat : Int) / 16) = (c.toNat : Int) / 16 := by simp [IntKind.wrap, IntKind.bits, IntKind.signed]; omega
            have w2 : (c.toNat : Int).tmod 16 = (c.toNat : Int) % 16 := Int.tmod_eq_emod_of_nonneg (by omega)
            have hsz2 : (strB [hiD c, loD c]).size = 2 := rfl
            have hnc : ¬ (9223372036854775807 < S.size + 2) := by omega
            have hnc2 : S.size + 2 ≤ 9223372036854775807 := by omega
            clear hup htk hall hmono k1 k2 hlt hS hsz hnx
            go_upto_region 14 with fail
            go_region_law (fail)
            all_goals go_wp2_with fail
            all_goals rw [Hnx.out]
            all_goals go_roundw
            all_goals first | exact ⟨i + 1, hi1, by go_num, rfl, HF2⟩ | (simp [intOf]; omega)
          · have k2I : 9 < (c.toNat : Int) % 16 := by omega
            have hE : unpE b n = 4 := by rw [HE0.out, if_pos (hmono (by unfold okN; simp [k2]))]
            have HE := Lib.hid hE
            have k20 : (c.toNat : Int) ≤ 255 := by omega
            have k00 : (0 : Int) ≤ (c.toNat : Int) := by omega
            clear hup htk hall hmono k1 k2 hE hsz hlt
            generalize (c.toNat : Int) = c8 at *
            go_wp2_with fail
            go_ret3
            exact unp_bad HE.out (by decide) HI.out.1
        · have k1I : 9 < (c.toNat : Int) / 16 := by omega
          have hE : unpE b n = 4 := by rw [HE0.out, if_pos (hmono (by unfold okN; simp [k1]))]
          have HE := Lib.hid hE
          have k20 : (c.toNat : Int) ≤ 255 := by omega
          have k00 : (0 : Int) ≤ (c.toNat : Int) := by omega
          clear hup htk hall hmono k1 hE hsz hlt
          generalize (c.toNat : Int) = c8 at *
          go_wp2_with fail
          go_ret3
          exact unp_bad HE.out (by decide) HI.out.1
      · have r1 : (m : Int) ≤ (i : Int) := by omega
        have e : i = m := by omega
        subst e
        have hE := HE0.out
        rw [if_neg (by rw [HI.out.2]; simp)] at hE
        obtain ⟨U, hU⟩ : ∃ U, unpairs (b.take i) = U := ⟨_, rfl⟩
        have hUl : U.length = 2 * i := by rw [← hU, unpairs_len, List.length_take]; omega
        have hS : unpS b n = U.drop (n % 2) := by unfold unpS; rw [Hm.out, hU]
        rw [hU] at hE ⊢
        by_cases ho : n % 2 = 1
        · have hoI : ((n : Int) % 2 == 1) = true := by simp; omega
          have hat := run_at (strB U) 0 (by rw [strB_size]; omega)
          have h0g : (strB U)[0]'(by rw [strB_size]; omega) = U.getD 0 0 := by
            rw [ByteArray.getElem_eq_getElem_data]
            simp [strB, List.getD]
            rw [List.getElem?_eq_getElem (by omega)]
            rfl
          by_cases hz : U.getD 0 0 = 48
          · have hE2 : unpE b n = 0 := by rw [hE, if_neg (fun h => h.2 hz)]
            have hct := strB_cut U 1
            rw [ho] at hS
            have HF := Lib.hid (show UnpP b n w (.returned (.tuple #[.string (strB (U.drop 1)), .int .i64 i, .int .i64 0])) wr by
              unfold UnpP unpT unpN
              rw [if_pos hE2, if_pos hE2, hE2, hS, Hm.out]
              exact ⟨rfl, HI.out.1⟩)
            have hsz := strB_size U
            have hsz1 : 1 ≤ (strB U).size := by omega
            have hK : ∀ S, strB U = S → ∀ h : 0 < S.size, ((S[0]'h).toNat : Int) = 48 := by
              rintro _ rfl h
              rw [h0g, hz]; rfl
            rw [← hct] at HF
            obtain ⟨S, hSe⟩ : ∃ S, strB U = S := ⟨_, rfl⟩
            rw [hSe] at HF hsz1 ⊢
            have hsz0 : 0 < S.size := hsz1
            have hS0 := hK S hSe hsz0
            clear hE hE2 hS hz h0g ho hU hct hsz hlt hat hK hSe hUl
            go_wp2_with fail
            go_ret3
            exact HF.out
          · have hE2 : unpE b n = 4 := by rw [hE, if_pos ⟨ho, hz⟩]
            have HE := Lib.hid hE2
            have hsz1 : 1 ≤ (strB U).size := by rw [strB_size]; omega
            have hK : ∀ S, strB U = S → ∀ h : 0 < S.size, (((S[0]'h).toNat : Int) != 48) = true := by
              rintro _ rfl h
              simp only [bne_iff_ne, ne_eq]
              intro h
              rw [h0g] at h
              apply hz
              apply UInt8.toNat_inj.1
              have : (48 : UInt8).toNat = 48 := rfl
              omega
            obtain ⟨S, hSe⟩ : ∃ S, strB U = S := ⟨_, rfl⟩
            rw [hSe] at hsz1 ⊢
            have hsz0 : 0 < S.size := hsz1
            have hS0 := hK S hSe hsz0
            clear hE hE2 hS hz h0g ho hU hlt hat hK hSe hUl
            go_wp2_with fail
            go_ret3
            exact unp_bad HE.out (by decide) HI.out.1
        · have hoI : ((n : Int) % 2 == 1) = false := by simp; omega
          have hE2 : unpE b n = 0 := by rw [hE, if_neg (fun h => ho h.1)]
          rw [show n % 2 = 0 by omega, List.drop_zero] at hS
          have HF := Lib.hid (show UnpP b n w (.returned (.tuple #[.string (strB U), .int .i64 i, .int .i64 0])) wr by
            unfold UnpP unpT unpN
            rw [if_pos hE2, if_pos hE2, hE2, hS, Hm.out]
            exact ⟨rfl, HI.out.1⟩)
          clear hE hE2 hS ho hU hUl hlt
          go_wp2_with fail
          go_ret3
          exact HF.out
end Go.Proofs.YthckgkghmlkcnaaDoor
