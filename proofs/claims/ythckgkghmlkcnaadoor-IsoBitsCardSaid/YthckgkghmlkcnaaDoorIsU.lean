/-
  THE WALK of IsoBits.
-/
import Derived.Test.YthckgkghmlkcnaaDoorIsZ
namespace Go.Proofs.YthckgkghmlkcnaaDoor
open Go.RowKit

/-- the ones of a number -/
def popN : Nat → Nat
  | 0 => 0
  | n + 1 => (n + 1) % 2 + popN ((n + 1) / 2)
theorem popN_zero : popN 0 = 0 := by simp [popN]
theorem popN_step {n : Nat} (h : 0 < n) : popN n = n % 2 + popN (n / 2) := by
  cases n with
  | zero => omega
  | succ n => rw [popN]
def onesB (c : UInt8) : Nat := ((List.range 8).filter (fun j => bitC c j)).length
theorem popN_bits' : ∀ c < 256, popN c = onesB (UInt8.ofNat c) := by decide +kernel
theorem popN_bits (c : UInt8) : popN c.toNat = onesB c := by
  have := popN_bits' c.toNat c.toNat_lt
  rwa [u8_eta] at this
theorem onesB_le (c : UInt8) : onesB c ≤ 8 := by
  unfold onesB
  have := List.length_filter_le (fun j => bitC c j) (List.range 8)
  simpa using this
def popL (l : Bs) : Nat := (l.map (fun c => popN c.toNat)).sum
theorem popL_snoc (l : Bs) (c : UInt8) : popL (l ++ [c]) = popL l + popN c.toNat := by unfold popL; simp
theorem popL_le : ∀ (l : Bs), popL l ≤ 8 * l.length
  | [] => by simp [popL]
  | c :: l => by
    have := popL_le l
    have e : popL (c :: l) = popN c.toNat + popL l := rfl
    have h := onesB_le c
    rw [← popN_bits] at h
    rw [e, List.length_cons]
    omega
def cntB (a : Bs) (n : Nat) : Nat := ((List.range n).filter (fun k => bitAt a k)).length
theorem cntB_succ (a : Bs) (n : Nat) : cntB a (n + 1) = cntB a n + (if bitAt a n = true then 1 else 0) := by
  unfold cntB
  rw [List.range_succ, List.filter_append, List.length_append]
  congr 1
  cases h : bitAt a n <;> simp [h]
theorem bitAt_app {a b : Bs} {i : Nat} (hi : i < 8 * a.length) : bitAt (a ++ b) i = bitAt a i := bit_take hi
theorem cntB_app (a b : Bs) : ∀ n, n ≤ 8 * a.length → cntB (a ++ b) n = cntB a n
  | 0, _ => rfl
  | n + 1, h => by rw [cntB_succ, cntB_succ, cntB_app a b n (by omega), bitAt_app (by omega)]
theorem bitAt_last (a : Bs) (c : UInt8) {j : Nat} (hj : j < 8) : bitAt (a ++ [c]) (8 * a.length + j) = bitC c j := by
  unfold bitAt
  have e1 : (8 * a.length + j) / 8 = a.length := by omega
  have e2 : (8 * a.length + j) % 8 = j := by omega
  rw [e1, e2]
  congr 1
  simp [List.getD]
theorem cntB_last (a : Bs) (c : UInt8) : ∀ j, j ≤ 8 → cntB (a ++ [c]) (8 * a.length + j) = cntB a (8 * a.length) + ((List.range j).filter (fun i => bitC c i)).length
  | 0, _ => by rw [Nat.add_zero, cntB_app a [c] _ (Nat.le_refl _)]; rfl
  | j + 1, h => by
    rw [← Nat.add_assoc, cntB_succ, cntB_last a c j (by omega), bitAt_last a c (by omega), List.range_succ, List.filter_append, List.length_append]
    cases hb : bitC c j <;> simp [hb]
    all_goals omega
theorem popL_cnt (a : Bs) : ∀ n, n ≤ a.length → popL (a.take n) = cntB (a.take n) (8 * n)
  | 0, _ => rfl
  | n + 1, h => by
    have hl : (a.take n).length = n := by rw [List.length_take]; omega
    have ih := popL_cnt a n (by omega)
    have := cntB_last (a.take n) a[n] 8 (Nat.le_refl _)
    rw [hl] at this
    rw [List.take_succ_eq_append_getElem h, popL_snoc, ih, popN_bits, show 8 * (n + 1) = 8 * n + 8 from rfl, this]
    rfl
theorem cnt_nums (a : Bs) : ∀ n, cntB a (n + 1) = ((List.range (n + 1)).filter (fun k => decide (1 ≤ k) && bitAt a k)).length + (if bitAt a 0 = true then 1 else 0)
  | 0 => by
    rw [cntB_succ]
    have : cntB a 0 = 0 := rfl
    rw [this]
    simp [List.range_succ]
  | n + 1 => by
    rw [cntB_succ, cnt_nums a n, List.range_succ (n := n + 1), List.filter_append, List.length_append]
    cases hb : bitAt a (n + 1) <;> simp [hb]
    all_goals omega
theorem pop_maps {t : ByteArray} {l : List Fld} (h : rightM t l = 0) : popL (mapsB l) = l.length + (if above l = true then 1 else 0) ∧ bitAt (mapsB l) 0 = above l ∧ (mapsB l).length = (if above l = true then 16 else 8) := by
  obtain ⟨_, h2⟩ := right_parts h
  have hf : ∀ f ∈ l, 2 ≤ f.n ∧ f.n ≤ 128 := fun f hf => by
    have := fmt_range ((right_fields l 0 h2).1 f hf).2.1
    omega
  obtain ⟨hl, hb⟩ := mapsB_bit hf
  have hpos : 0 < (mapsB l).length := by rw [hl]; split <;> omega
  have h0 : bitAt (mapsB l) 0 = above l := by
    rw [hb 0 (by omega)]
    have : hasN l 0 = false := by
      unfold hasN
      rw [List.any_eq_false]
      intro f hm
      have := (hf f hm).1
      simp
      omega
    rw [this]
    simp
  refine ⟨?_, h0, hl⟩
  have e := popL_cnt (mapsB l) (mapsB l).length (Nat.le_refl _)
  rw [List.take_length] at e
  obtain ⟨m, hm⟩ : ∃ m, 8 * (mapsB l).length = m + 1 := ⟨8 * (mapsB l).length - 1, by omega⟩
  rw [e, hm, cnt_nums, h0, ← hm]
  have hn := congrArg List.length (nums_maps h2)
  unfold numsOf at hn
  rw [List.length_map, List.length_map] at hn
  rw [hn]
theorem bytes_map {t : ByteArray} {l : List Fld} (h : rightM t l = 0) {k : Nat} (hk : k < (mapsB l).length) : (bytesM t l)[2 + k]? = some (mapsB l)[k] := by
  obtain ⟨h1, _⟩ := right_parts h
  unfold bytesM
  have hp : (packB (bl t)).length = 2 := by rw [packB_len, bl_len, h1]
  rw [List.append_assoc, List.getElem?_append_right (by omega), hp, show 2 + k - 2 = k by omega, List.getElem?_append_left hk, List.getElem?_eq_getElem hk]
theorem and1' : ∀ c < 256, bits .and .u8 ((c : Nat) : Int) 1 = ((c % 2 : Nat) : Int) := by decide +kernel
theorem hi_bit {c : UInt8} {X : Bs} (h : X.getD 0 0 = c) : bitAt X 0 = decide (128 ≤ (c.toNat : Int)) := by
  rw [bit0_of c X h]
  have := c.toNat_lt
  simp only [decide_eq_decide]
  omega
set_option maxRecDepth 100000 in
set_option maxHeartbeats 3200000 in
theorem bits_walk {t : ByteArray} {ao : Option Addr} {cap : Nat} {l : List Fld} {w : World} (h : ArgM w t ao cap l) : Calls Tryd.prog 6 #[.agg #[.string t, .slice ao l.length cap]] w (LawP w) := by
  have HA := Lib.hid h
  have HB0 := Lib.hid (heap_new w (.cells #[.string t, .slice ao l.length cap] 27))
  have HF0 := Lib.hid ((Fr.refl noBlock w).alloc (.cells #[.string t, .slice ao l.length cap] 27))
  have hn24 := h.n
  clear h
  go_enter Tryd.func6, Tryd.ntmps6
  go_wp2_with fail
  refine (small_any _).mono ?_
  rintro e w1 ⟨rfl, f1⟩
  have HB1 := Lib.hid (f1.obj HB0.out (fun x => x))
  have HF1 := Lib.hid (HF0.out.trans' f1)
  clear f1 HB0 HF0
  have x1 := cell_of HB1.out 1
  have x0 := cell_of HB1.out 0
  simp at x0 x1
  have HBy := Lib.hid (bytes_any t (HA.out.rd.fr0 HF1.out) cap HA.out.small)
  unfold ReadP at HBy
  go_wp2_with fail
  refine HBy.out.mono ?_
  rintro e w2 ⟨⟨sa, sn, sc⟩, rfl, h1, h2, h3, h4⟩
  simp only at h1
  have HB2 := Lib.hid (h3.obj HB1.out (fun x => x))
  have HF2 := Lib.hid (HF1.out.trans' h3)
  have hlen := h1
  unfold SV.val at h2 ⊢
  dsimp only at h2 ⊢
  have HR2 := Lib.hid (RowAt.rd h2)
  clear h1 h2 h3 h4 x0 x1 HB1 HF1
  by_cases hr : rightM t l = 0
  · rw [hr]
    have hbr : bytesR t l = bytesM t l := by unfold bytesR; rw [if_pos hr]
    rw [hbr] at hlen HR2
    obtain ⟨hp1, hp2, hp3⟩ := pop_maps hr
    obtain ⟨hs1, hs2⟩ := right_sizes hr
    have hlen2 := bytesM_len hr
    have HMap := Lib.hid (fun (k : Nat) (hk : k < (mapsB l).length) => bytes_map hr hk)
    have hlI : (l.length : Int) ≤ 103 := by omega
    have hge := restB_ge l
    obtain ⟨n, hn⟩ : ∃ n, (mapsB l).length = n := ⟨_, rfl⟩
    have hn816 : n = 8 ∨ n = 16 := by rw [← hn, hp3]; split <;> omega
    have hnl : 2 + n ≤ sn := by
      rw [hlen, hlen2, ← hn, hp3]
      omega
    have hnlI : 2 + (n : Int) ≤ (sn : Int) := by omega
    have hn16 : (n : Int) ≤ 16 := by omega
    have hn8 : 8 ≤ (n : Int) := by omega
    have hsn10 : 10 ≤ (sn : Int) := by omega
    obtain ⟨ab, hab⟩ : ∃ ab, above l = ab := ⟨_, rfl⟩
    have HP := Lib.hid (show popL (mapsB l) = l.length + (if ab = true then 1 else 0) ∧ bitAt (mapsB l) 0 = ab ∧ n = (if ab = true then 16 else 8) by rw [← hab, ← hn]; exact ⟨hp1, hp2, hp3⟩)
    have HNn := Lib.hid hn
    have hbl : sn = (bytesM t l).length := hlen
    obtain ⟨bb, bo, rfl, hbb⟩ := byte_addr HR2.out (i := 2) (by omega)
    have HY := Lib.hid (fun (k : Nat) (hk : k < n) => show w2.cell? ⟨bb, bo + (2 + k), none⟩ = some (byteV ((mapsB l).getD k 0)) from by
      have hk' : k < (mapsB l).length := by rw [HNn.out]; exact hk
      have hb := byte_rd HR2.out (i := 2 + k) (by omega)
      rw [hb]
      have h2 := HMap.out k hk'
      rw [List.getElem?_eq_getElem (by omega)] at h2
      rw [Option.some.inj h2]
      simp [List.getD, hk'])
    have y2 := HY.out 0 (by omega)
    have hbit := hi_bit (c := (mapsB l).getD 0 0) rfl
    have hc256 := ((mapsB l).getD 0 0).toNat_lt
    rw [HP.out.2.1] at hbit
    unfold byteV at y2
    have x1 := cell_of HB2.out 1
    simp at x1
    have hsnN : 2 < sn := by omega
    clear hbr hr hlen hlen2 hp1 hp2 hp3 hs1 hs2 hn hab hge hbl HMap
    generalize (((mapsB l).getD 0 0).toNat : Int) = c0 at *
    cases ab with
    | true =>
      have hn : n = 16 := HP.out.2.2
      subst hn
      have HPl := Lib.hid (show ((popL (mapsB l) : Nat) : Int) = (l.length : Int) + 1 by have := HP.out.1; simp only [if_true, if_false, Bool.false_eq_true] at this; rw [this]; simp)
      have hcb : 128 ≤ c0 := by simpa using hbit.symm
      clear hbit HP
      go_wp2_with fail
      go_loop [8, 9] (fun s8 s9 => ∃ (i : Nat) (q : Int), 2 ≤ i ∧ i ≤ 18 ∧ s9 = .int .i64 i ∧ s8 = .int .i64 q ∧ 0 ≤ q ∧ q ≤ 128 ∧ Hid (q = ((popL ((mapsB l).take (i - 2)) : Nat) : Int))) (fun _ s9 => 18 - (intOf s9).toNat)
      case atStart => exact ⟨2, 0, by omega, by omega, rfl, rfl, by omega, by omega, Lib.hid rfl⟩
      case round =>
        obtain ⟨i, q, hi2, hin, rfl, rfl, hq0, hq1, HQ⟩ := hrel
        by_cases hlt : i < 18
        · have q1 : (i : Int) < 18 := by omega
          have q2 : (i : Int) < (sn : Int) := by omega
          have q0 : (0 : Int) ≤ (i : Int) := by omega
          have yi : w2.cell? ⟨bb, bo + i, none⟩ = some (byteV ((mapsB l).getD (i - 2) 0)) := by
            have := HY.out (i - 2) (by omega)
            rw [show 2 + (i - 2) = i by omega] at this
            exact this
          have hk : i - 2 < (mapsB l).length := by rw [HNn.out]; omega
          have hpl : popL ((mapsB l).take (i + 1 - 2)) = popL ((mapsB l).take (i - 2)) + popN ((mapsB l).getD (i - 2) 0).toNat := by
            rw [show i + 1 - 2 = (i - 2) + 1 by omega, List.take_succ_eq_append_getElem hk, popL_snoc, List.getD_eq_getElem?_getD, List.getElem?_eq_getElem hk, Option.getD_some]
          have hT := popL_le ((mapsB l).take (i + 1 - 2))
          rw [List.length_take, HNn.out] at hT
          unfold byteV at yi
          obtain ⟨T, hTe⟩ : ∃ T : Int, ((popL ((mapsB l).take (i + 1 - 2)) : Nat) : Int) = T := ⟨_, rfl⟩
          have hT128 : T ≤ 128 := by omega
          have hm256 := ((mapsB l).getD (i - 2) 0).toNat_lt
          generalize ((mapsB l).getD (i - 2) 0).toNat = m at *
          have HQT := Lib.hid (show q + ((popN m : Nat) : Int) = T by rw [HQ.out, ← hTe, hpl]; omega)
          have HTe := Lib.hid hTe
          have hi' : i + 1 ≤ 18 := hlt
          have hi'' : 2 ≤ i + 1 := by omega
          have hT0 : 0 ≤ T := by omega
          clear hpl hT hTe HQ hk hlt
          go_wp2_with fail
          go_loop [8, 10] (fun s8 s10 => ∃ (c : Nat) (q : Int), c < 256 ∧ s10 = .int .u8 c ∧ s8 = .int .i64 q ∧ 0 ≤ q ∧ q ≤ 128 ∧ Hid (q + ((popN c : Nat) : Int) = T)) (fun _ s10 => (intOf s10).toNat)
          case atStart => exact ⟨m, q, hm256, rfl, rfl, hq0, hq1, HQT⟩
          case round =>
            clear hq0 hq1 HQT
            obtain ⟨c, q, hc, rfl, rfl, hq0, hq1, HQ⟩ := hrel
            by_cases hc0 : c = 0
            · subst hc0
              have HQ2 := Lib.hid (show q = T by have := HQ.out; rw [popN_zero] at this; omega)
              clear HQ
              go_wp2_with fail
              go_round
              case rel => exact ⟨i + 1, q, hi'', hi', by go_num, rfl, hq0, hq1, Lib.hid (HQ2.out.trans HTe.out.symm)⟩
              case measure => simp [intOf]; omega
            · have hcI : (0 : Int) < (c : Int) := by omega
              have hand := and1' c hc
              have hst := popN_step (n := c) (by omega)
              obtain ⟨d, hd⟩ : ∃ d, c % 2 = d := ⟨_, rfl⟩
              have hd1 : (d : Int) ≤ 1 := by omega
              have hd0 : (0 : Int) ≤ (d : Int) := by omega
              rw [hd] at hand hst
              have hqd : q + (d : Int) ≤ 128 := by have := HQ.out; omega
              have hqd0 : 0 ≤ q + (d : Int) := by omega
              have HQ2 := Lib.hid (show q + (d : Int) + ((popN (c / 2) : Nat) : Int) = T by have := HQ.out; omega)
              have hc2 : c / 2 < 256 := by omega
              have hcs : (c : Int) ≤ 255 := by omega
              have Hc0 := Lib.hid hc0
              clear hst hd HQ hc0
              go_wp2_with fail
              go_round
              case rel => exact ⟨c / 2, q + (d : Int), hc2, congrArg (Value.int .u8) (by omega), rfl, hqd0, hqd, HQ2⟩
              case measure => have := Hc0.out; simp [intOf]; omega
        · have q1 : 18 ≤ (i : Int) := by omega
          have e : i = 18 := by omega
          subst e
          have HQ2 := Lib.hid (show q = (l.length : Int) + 1 by
            rw [HQ.out, ← HPl.out]
            rw [List.take_of_length_le (by rw [HNn.out]; omega)])
          have hqw : (q == (l.length : Int) + 1) = true := by simpa using HQ2.out
          clear hlt HQ
          go_wp2_with fail
          go_ret
          exact LawP.mk' HF2.out
    | false =>
      have hn : n = 8 := HP.out.2.2
      subst hn
      have HPl := Lib.hid (show ((popL (mapsB l) : Nat) : Int) = (l.length : Int) by have := HP.out.1; simp only [if_true, if_false, Bool.false_eq_true] at this; rw [this]; simp)
      have hcb : c0 < 128 := by simpa using hbit.symm
      clear hbit HP
      go_wp2_with fail
      go_loop [8, 9] (fun s8 s9 => ∃ (i : Nat) (q : Int), 2 ≤ i ∧ i ≤ 10 ∧ s9 = .int .i64 i ∧ s8 = .int .i64 q ∧ 0 ≤ q ∧ q ≤ 128 ∧ Hid (q = ((popL ((mapsB l).take (i - 2)) : Nat) : Int))) (fun _ s9 => 10 - (intOf s9).toNat)
      case atStart => exact ⟨2, 0, by omega, by omega, rfl, rfl, by omega, by omega, Lib.hid rfl⟩
      case round =>
        obtain ⟨i, q, hi2, hin, rfl, rfl, hq0, hq1, HQ⟩ := hrel
        by_cases hlt : i < 10
        · have q1 : (i : Int) < 10 := by omega
          have q2 : (i : Int) < (sn : Int) := by omega
          have q0 : (0 : Int) ≤ (i : Int) := by omega
          have yi : w2.cell? ⟨bb, bo + i, none⟩ = some (byteV ((mapsB l).getD (i - 2) 0)) := by
            have := HY.out (i - 2) (by omega)
            rw [show 2 + (i - 2) = i by omega] at this
            exact this
          have hk : i - 2 < (mapsB l).length := by rw [HNn.out]; omega
          have hpl : popL ((mapsB l).take (i + 1 - 2)) = popL ((mapsB l).take (i - 2)) + popN ((mapsB l).getD (i - 2) 0).toNat := by
            rw [show i + 1 - 2 = (i - 2) + 1 by omega, List.take_succ_eq_append_getElem hk, popL_snoc, List.getD_eq_getElem?_getD, List.getElem?_eq_getElem hk, Option.getD_some]
          have hT := popL_le ((mapsB l).take (i + 1 - 2))
          rw [List.length_take, HNn.out] at hT
          unfold byteV at yi
          obtain ⟨T, hTe⟩ : ∃ T : Int, ((popL ((mapsB l).take (i + 1 - 2)) : Nat) : Int) = T := ⟨_, rfl⟩
          have hT128 : T ≤ 128 := by omega
          have hm256 := ((mapsB l).getD (i - 2) 0).toNat_lt
          generalize ((mapsB l).getD (i - 2) 0).toNat = m at *
          have HQT := Lib.hid (show q + ((popN m : Nat) : Int) = T by rw [HQ.out, ← hTe, hpl]; omega)
          have HTe := Lib.hid hTe
          have hi' : i + 1 ≤ 10 := hlt
          have hi'' : 2 ≤ i + 1 := by omega
          have hT0 : 0 ≤ T := by omega
          clear hpl hT hTe HQ hk hlt
          go_wp2_with fail
          go_loop [8, 10] (fun s8 s10 => ∃ (c : Nat) (q : Int), c < 256 ∧ s10 = .int .u8 c ∧ s8 = .int .i64 q ∧ 0 ≤ q ∧ q ≤ 128 ∧ Hid (q + ((popN c : Nat) : Int) = T)) (fun _ s10 => (intOf s10).toNat)
          case atStart => exact ⟨m, q, hm256, rfl, rfl, hq0, hq1, HQT⟩
          case round =>
            clear hq0 hq1 HQT
            obtain ⟨c, q, hc, rfl, rfl, hq0, hq1, HQ⟩ := hrel
            by_cases hc0 : c = 0
            · subst hc0
              have HQ2 := Lib.hid (show q = T by have := HQ.out; rw [popN_zero] at this; omega)
              clear HQ
              go_wp2_with fail
              go_round
              case rel => exact ⟨i + 1, q, hi'', hi', by go_num, rfl, hq0, hq1, Lib.hid (HQ2.out.trans HTe.out.symm)⟩
              case measure => simp [intOf]; omega
            · have hcI : (0 : Int) < (c : Int) := by omega
              have hand := and1' c hc
              have hst := popN_step (n := c) (by omega)
              obtain ⟨d, hd⟩ : ∃ d, c % 2 = d := ⟨_, rfl⟩
              have hd1 : (d : Int) ≤ 1 := by omega
              have hd0 : (0 : Int) ≤ (d : Int) := by omega
              rw [hd] at hand hst
              have hqd : q + (d : Int) ≤ 128 := by have := HQ.out; omega
              have hqd0 : 0 ≤ q + (d : Int) := by omega
              have HQ2 := Lib.hid (show q + (d : Int) + ((popN (c / 2) : Nat) : Int) = T by have := HQ.out; omega)
              have hc2 : c / 2 < 256 := by omega
              have hcs : (c : Int) ≤ 255 := by omega
              have Hc0 := Lib.hid hc0
              clear hst hd HQ hc0
              go_wp2_with fail
              go_round
              case rel => exact ⟨c / 2, q + (d : Int), hc2, congrArg (Value.int .u8) (by omega), rfl, hqd0, hqd, HQ2⟩
              case measure => have := Hc0.out; simp [intOf]; omega
        · have q1 : 10 ≤ (i : Int) := by omega
          have e : i = 10 := by omega
          subst e
          have HQ2 := Lib.hid (show q = (l.length : Int) by
            rw [HQ.out, ← HPl.out]
            rw [List.take_of_length_le (by rw [HNn.out]; omega)])
          have hqw : (q == (l.length : Int)) = true := by simpa using HQ2.out
          clear hlt HQ
          go_wp2_with fail
          go_ret
          exact LawP.mk' HF2.out
  · have hx : (rightM t l != 0) = true := by simpa using hr
    generalize rightM t l = x at *
    clear hr hlen
    go_wp2_with fail
    go_ret
    exact LawP.mk' HF2.out
end Go.Proofs.YthckgkghmlkcnaaDoor
