/-
  THE WALK of the digest's block.
-/
import Derived.Test.YthabllnhlhkejaaGreatDoorShB
namespace Go.Proofs.YthabllnhlhkejaaGreatDoor
open Go.RowKit

set_option maxRecDepth 100000 in
set_option maxHeartbeats 3200000 in
/-- the block: s (at a, from its first cell on), the constants at k, the bytes x -/
theorem block_any {w : World} {a k : Nat} {ca : Array Value} {ta : TypeId} {s : S8} {b off : Nat} {x : List UInt8} (ha : w.heap[a]? = some (.cells ca ta (0, 0))) (hs : ca.toList.take 8 = s.list.map u32V) (hk : w.heap[k]? = some (wordsO shaK 211)) (hx : RowRd ByteR w (some ⟨b, off, none⟩) x) (hl : 64 ≤ x.length) (_hxa : b ≠ a) (_hka : k ≠ a) (n c : Nat) (hn : x.length = n) (hnc : n ≤ c) :
    Calls Tryz.prog 144 #[.pointer (some ⟨a, 0, none⟩), .pointer (some ⟨k, 0, none⟩), .slice (some ⟨b, off, none⟩) n c] w fun e w' => e = .returned (.tuple #[]) ∧ Fr (fun q => q = a) w w' ∧ w'.heap[a]? = some (.cells (((shaB s (x.take 64)).list.map u32V) ++ ca.toList.drop 8).toArray ta (0, 0)) := by
  go_enter Tryz.func144, Tryz.ntmps144
  go_upto_region 1 with fail
  refine wp_at (fun W => W.heap[w.heap.size]? = some (wordsO (schedL x 0) 211) ∧ Fr noBlock w W) ⟨heap_new w _, (Fr.refl noBlock w).alloc _⟩ ?_
  rintro w1 ⟨h0, f0⟩
  have H0 := Lib.hid h0
  have F0 := Lib.hid f0
  clear h0 f0
  go_wp2_with fail
  go_loopw [17] (fun s17 wr => ∃ t : Nat, t ≤ 64 ∧ s17 = .int .i64 t ∧ Hid (wr.heap[w.heap.size]? = some (wordsO (schedL x t) 211)) ∧ Hid (Fr noBlock w wr)) (fun s17 _ => 64 - (intOf s17).toNat)
  case atStart => exact ⟨0, by omega, rfl, H0, F0⟩
  case round =>
    clear H0 F0
    obtain ⟨t, ht, rfl, HB, HF⟩ := hrel
    by_cases hlt : t < 64
    · have q1 : (t : Int) < 64 := by omega
      have q0 : (0 : Int) ≤ (t : Int) := by omega
      by_cases h16 : t < 16
      · have q2 : (t : Int) < 16 := by omega
        have HX := Lib.hid (show RowRd ByteR wr (some ⟨b, off + 4 * t, none⟩) (x.drop (4 * t)) by
          have h := (hx.fr0 HF.out).piece (4 * t) x.length
          rw [byteK, Nat.mul_one, List.take_of_length_le (by rw [List.length_drop]; omega)] at h
          exact h)
        have HW := Lib.hid (fun m c' hm => word_any HX.out m c' hm (by rw [List.length_drop]; omega))
        have q3 : (0 : Int) ≤ 4 * (t : Int) := by omega
        have q4 : 4 * (t : Int) ≤ (n : Int) := by omega
        have q5 : (n : Int) ≤ (c : Int) := by omega
        have e16 : wordOf (x.drop (4 * t)) 0 = nextW x (sched x t) t := by
          unfold nextW wordOf
          rw [if_pos h16]
          simp only [List.getD_eq_getElem?_getD, List.getElem?_drop, Nat.zero_add, Nat.add_zero]
        rw [e16] at HW
        go_wp2_with fail
        refine (HW.out _ _ (by omega)).mono ?_
        rintro e w2 ⟨rfl, hf2⟩
        obtain ⟨y, hy⟩ : ∃ y, (schedL x t)[t]? = some y := ⟨_, List.getElem?_eq_getElem (by rw [schedL_len x ht]; exact hlt)⟩
        obtain ⟨d0, d1⟩ := words_cell (hf2.obj HB.out (fun z => z)) hy
        have HB2 := Lib.hid (words_set (hf2.obj HB.out (fun z => z)) t (nextW x (sched x t) t))
        have HF2 := Lib.hid ((HF.out.trans' hf2).setCell (p := ⟨w.heap.size, t, none⟩) (.inr (Nat.le_refl _)) (.int .u32 ((nextW x (sched x t) t).toNat : Int)))
        rw [schedL_set x hlt] at HB2
        clear hf2 HX HW e16
        go_wp2_with fail
        go_roundw
        case rel => exact ⟨t + 1, hlt, by go_num, HB2, HF2⟩
        case measure => simp [intOf]; omega
      · have q2 : (16 : Int) ≤ (t : Int) := by omega
        have e15 : wrap64 ((t : Int) - 15) = ((t - 15 : Nat) : Int) := by unfold wrap64; omega
        have e2 : wrap64 ((t : Int) - 2) = ((t - 2 : Nat) : Int) := by unfold wrap64; omega
        have f15 : ((t - 15 : Nat) : Int) < 64 := by omega
        have f2 : ((t - 2 : Nat) : Int) < 64 := by omega
        have c15 := (words_cell HB.out (schedL_get x (t := t) (i := t - 15) (by omega))).1
        have c2 := (words_cell HB.out (schedL_get x (t := t) (i := t - 2) (by omega))).1
        have c16 := schedL_get x (t := t) (i := t - 16) (by omega)
        have c7 := schedL_get x (t := t) (i := t - 7) (by omega)
        obtain ⟨A15, hA15⟩ : ∃ A, (sched x t).getD (t - 15) 0 = A := ⟨_, rfl⟩
        obtain ⟨A2, hA2⟩ : ∃ A, (sched x t).getD (t - 2) 0 = A := ⟨_, rfl⟩
        obtain ⟨A16, hA16⟩ : ∃ A, (sched x t).getD (t - 16) 0 = A := ⟨_, rfl⟩
        obtain ⟨A7, hA7⟩ : ∃ A, (sched x t).getD (t - 7) 0 = A := ⟨_, rfl⟩
        rw [hA15] at c15
        rw [hA2] at c2
        rw [hA16] at c16
        rw [hA7] at c7
        have HN := Lib.hid (show nextW x (sched x t) t = ((A16 + ((rotr A15 7 ^^^ rotr A15 18) ^^^ A15 >>> 3)) + A7) + ((rotr A2 17 ^^^ rotr A2 19) ^^^ A2 >>> 10) by
          unfold nextW
          rw [if_neg h16, hA15, hA2, hA16, hA7])
        clear hA15 hA2 hA16 hA7
        go_wp2_with fail
        go_quiet (fail)
        go_upto_region 7 with fail
        refine wp_at (fun W => Fr noBlock wr W) ((Fr.refl noBlock wr).drewN nq) ?_
        intro wq hq
        have HBq := Lib.hid (hq.obj HB.out (fun z => z))
        have HFq := Lib.hid (HF.out.trans' hq)
        clear c15 c2 e15 e2 f15 f2 hq HB HF
        have e16 : wrap64 ((t : Int) - 16) = ((t - 16 : Nat) : Int) := by unfold wrap64; omega
        have e7 : wrap64 ((t : Int) - 7) = ((t - 7 : Nat) : Int) := by unfold wrap64; omega
        have f16 : ((t - 16 : Nat) : Int) < 64 := by omega
        have f7 : ((t - 7 : Nat) : Int) < 64 := by omega
        have h16' : IntKind.i64.wrap ((t : Int) - 16) = ((t - 16 : Nat) : Int) := by rw [IntKind.wrap_i64]; omega
        have h7' : IntKind.i64.wrap ((t : Int) - 7) = ((t - 7 : Nat) : Int) := by rw [IntKind.wrap_i64]; omega
        have g16 : (0 : Int) ≤ ((t - 16 : Nat) : Int) := by omega
        have g7 : (0 : Int) ≤ ((t - 7 : Nat) : Int) := by omega
        have HKeep := Lib.hid (show ∀ W : World, Fr noBlock wq W → W.cell? ⟨w.heap.size, t - 16, none⟩ = some (.int .u32 (A16.toNat : Int)) ∧ W.cell? ⟨w.heap.size, t - 7, none⟩ = some (.int .u32 (A7.toNat : Int)) ∧ W.cell? ⟨w.heap.size, t, none⟩ = some (cellAt W ⟨w.heap.size, t, none⟩) ∧ W.frozen? ⟨w.heap.size, t, none⟩ = false from fun W hf => by
          have hb := hf.obj HBq.out (fun z => z)
          obtain ⟨y, hy⟩ : ∃ y, (schedL x t)[t]? = some y := ⟨_, List.getElem?_eq_getElem (by rw [schedL_len x ht]; exact hlt)⟩
          exact ⟨(words_cell hb c16).1, (words_cell hb c7).1, cellAt_some (words_cell hb hy).1, (words_cell hb hy).2⟩)
        clear c16 c7
        obtain ⟨d16, d7, dy, dz⟩ := HKeep.out _ (Fr.refl noBlock wq)
        have R1 := Lib.hid (rightP A15 (n := 7) (by decide) (z := 7) rfl)
        have R2 := Lib.hid (rightP A15 (n := 18) (by decide) (z := 18) rfl)
        have R3 := Lib.hid (rightP A2 (n := 17) (by decide) (z := 17) rfl)
        have R4 := Lib.hid (rightP A2 (n := 19) (by decide) (z := 19) rfl)
        unfold RightP at R1 R2 R3 R4
        go_region_held3 (fun W => W.cell? ⟨w.heap.size, t - 16, none⟩ = some (.int .u32 (A16.toNat : Int)) ∧ W.cell? ⟨w.heap.size, t - 7, none⟩ = some (.int .u32 (A7.toNat : Int)) ∧ W.cell? ⟨w.heap.size, t, none⟩ = some (cellAt W ⟨w.heap.size, t, none⟩) ∧ W.frozen? ⟨w.heap.size, t, none⟩ = false)
          (first | exact ⟨d16, d7, dy, dz⟩ | exact HKeep.out _ ((Fr.refl noBlock wq).drew) | exact keep_two d16 d7 dy dz (by omega) (by omega) | fail "nokeep")
          (first
            | (go_at_call 159; (with_reducible refine (R1.out _).mono ?_); rintro e w' ⟨rfl, rfl⟩)
            | (go_at_call 159; (with_reducible refine (R2.out _).mono ?_); rintro e w' ⟨rfl, rfl⟩)
            | (go_at_call 159; (with_reducible refine (R3.out _).mono ?_); rintro e w' ⟨rfl, rfl⟩)
            | (go_at_call 159; (with_reducible refine (R4.out _).mono ?_); rintro e w' ⟨rfl, rfl⟩)
            | fail "noarm")
        have HB2 := Lib.hid (words_set HBq.out t (nextW x (sched x t) t))
        have HF2 := Lib.hid ((HFq.out.setCell (p := ⟨w.heap.size, t, none⟩) (.inr (Nat.le_refl _)) (.int .u32 ((nextW x (sched x t) t).toNat : Int))).drew)
        rw [schedL_set x hlt] at HB2
        rw [HN.out, ← next_u32] at HB2 HF2
        clear HN HKeep R1 R2 R3 R4 d16 d7 dy dz
        go_wp2_with fail
        go_roundw
        case rel => exact ⟨t + 1, hlt, by go_num, HB2, HF2⟩
        case measure => simp [intOf]; omega
    · have q1 : (64 : Int) ≤ (t : Int) := by omega
      obtain rfl : t = 64 := by omega
      clear hlt ht
      have ac : ∀ (W : World), W.heap[a]? = some (.cells ca ta (0, 0)) → W.cell? ⟨a, 0, none⟩ = some (.int .u32 (s.a.toNat : Int)) ∧ W.cell? ⟨a, 1, none⟩ = some (.int .u32 (s.b.toNat : Int)) ∧ W.cell? ⟨a, 2, none⟩ = some (.int .u32 (s.c.toNat : Int)) ∧ W.cell? ⟨a, 3, none⟩ = some (.int .u32 (s.d.toNat : Int)) ∧ W.cell? ⟨a, 4, none⟩ = some (.int .u32 (s.e.toNat : Int)) ∧ W.cell? ⟨a, 5, none⟩ = some (.int .u32 (s.f.toNat : Int)) ∧ W.cell? ⟨a, 6, none⟩ = some (.int .u32 (s.g.toNat : Int)) ∧ W.cell? ⟨a, 7, none⟩ = some (.int .u32 (s.h.toNat : Int)) := by
        intro W hW
        have g : ∀ i, i < 8 → W.cell? ⟨a, i, none⟩ = (s.list.map u32V)[i]? := by
          intro i hi
          rw [cell_of hW, ← hs, List.getElem?_take, if_pos hi, Array.getElem?_toList]
        exact ⟨g 0 (by omega), g 1 (by omega), g 2 (by omega), g 3 (by omega), g 4 (by omega), g 5 (by omega), g 6 (by omega), g 7 (by omega)⟩
      obtain ⟨a0, a1, a2, a3, a4, a5, a6, a7⟩ := ac wr (HF.out.obj ha (fun z => z))
      have HC := Lib.hid ac
      clear ac
      obtain ⟨w4, rfl⟩ : ∃ w4 : World, w4 = wr := ⟨_, rfl⟩
      go_upto_region 10 with fail
      obtain ⟨v, hv⟩ : ∃ v, w4.heap.size = v := ⟨_, rfl⟩
      refine wp_at (fun W => W.heap[v]? = some (wordsO (rounds x s 0).list 207) ∧ Fr noBlock w4 W) ⟨by rw [← hv]; exact heap_new w4 _, (Fr.refl noBlock w4).alloc _⟩ ?_
      rintro w2 ⟨h2, f2⟩
      have H2 := Lib.hid h2
      have F2 := Lib.hid f2
      clear h2 f2 a0 a1 a2 a3 a4 a5 a6 a7
      rw [hv]
      go_wp2_with fail
      go_loopw [70] (fun s70 W => ∃ t : Nat, t ≤ 64 ∧ s70 = .int .i64 t ∧ Hid (W.heap[v]? = some (wordsO (rounds x s t).list 207)) ∧ Hid (Fr noBlock w4 W)) (fun s70 _ => 64 - (intOf s70).toNat)
      case atStart => exact ⟨0, by omega, rfl, H2, F2⟩
      case round =>
        clear H2 F2
        obtain ⟨t, ht, rfl, HV, HW⟩ := hrel
        by_cases hlt : t < 64
        · have q2 : (t : Int) < 64 := by omega
          have q0 : (0 : Int) ≤ (t : Int) := by omega
          obtain ⟨R, hR⟩ : ∃ R, rounds x s t = R := ⟨_, rfl⟩
          have HR := Lib.hid hR
          rw [hR] at HV
          clear hR
          have vc : ∀ (U : World), Fr noBlock wr U → U.cell? ⟨v, 0, none⟩ = some (.int .u32 (R.a.toNat : Int)) ∧ U.cell? ⟨v, 1, none⟩ = some (.int .u32 (R.b.toNat : Int)) ∧ U.cell? ⟨v, 2, none⟩ = some (.int .u32 (R.c.toNat : Int)) ∧ U.cell? ⟨v, 3, none⟩ = some (.int .u32 (R.d.toNat : Int)) ∧ U.cell? ⟨v, 4, none⟩ = some (.int .u32 (R.e.toNat : Int)) ∧ U.cell? ⟨v, 5, none⟩ = some (.int .u32 (R.f.toNat : Int)) ∧ U.cell? ⟨v, 6, none⟩ = some (.int .u32 (R.g.toNat : Int)) ∧ U.cell? ⟨v, 7, none⟩ = some (.int .u32 (R.h.toNat : Int)) := by
            intro U hU
            have h := hU.obj HV.out (fun z => z)
            exact ⟨(words_cell h (i := 0) rfl).1, (words_cell h (i := 1) rfl).1, (words_cell h (i := 2) rfl).1, (words_cell h (i := 3) rfl).1, (words_cell h (i := 4) rfl).1, (words_cell h (i := 5) rfl).1, (words_cell h (i := 6) rfl).1, (words_cell h (i := 7) rfl).1⟩
          obtain ⟨b0, -, -, -, b4, -, -, -⟩ := vc wr (Fr.refl _ _)
          have HC2 := Lib.hid vc
          clear vc
          go_wp2_with fail
          go_quiet (fail)
          go_upto_region 14 with fail
          refine wp_at (fun U => Fr noBlock wr U) ((Fr.refl noBlock wr).drewN nq) ?_
          intro w3 f3
          obtain ⟨b0, b1, b2, b3, b4, b5, b6, b7⟩ := HC2.out w3 f3
          have F3 := Lib.hid f3
          clear f3
          have k1 : w3.cell? ⟨k, t, none⟩ = some (.int .u32 ((shaK.getD t 0).toNat : Int)) := by
            have h := F3.out.obj (HW.out.obj (HF.out.obj hk (fun z => z)) (fun z => z)) (fun z => z)
            exact (words_cell h (by rw [List.getD_eq_getElem?_getD, List.getElem?_eq_getElem (by rw [shaK_len]; exact hlt)]; rfl)).1
          have k2 : w3.cell? ⟨w.heap.size, t, none⟩ = some (.int .u32 (((sched x 64).getD t 0).toNat : Int)) := by
            have h := F3.out.obj (HW.out.obj HB.out (fun z => z)) (fun z => z)
            exact (words_cell h (schedL_get x hlt)).1
          obtain ⟨KK, hKK⟩ : ∃ K, shaK.getD t 0 = K := ⟨_, rfl⟩
          obtain ⟨WW, hWW⟩ : ∃ K, (sched x 64).getD t 0 = K := ⟨_, rfl⟩
          rw [hKK] at k1
          rw [hWW] at k2
          have HKW := Lib.hid (And.intro hKK hWW)
          clear hKK hWW
          have R1 := Lib.hid (rightP R.e (n := 6) (by decide) (z := 6) rfl)
          have R2 := Lib.hid (rightP R.e (n := 11) (by decide) (z := 11) rfl)
          have R3 := Lib.hid (rightP R.e (n := 25) (by decide) (z := 25) rfl)
          unfold RightP at R1 R2 R3
          go_quiet (first
            | (go_at_call 159; exact Calls.quiet_of_same ((R1.out _).mono fun _ _ ⟨a, b⟩ => ⟨a, b.symm⟩))
            | (go_at_call 159; exact Calls.quiet_of_same ((R2.out _).mono fun _ _ ⟨a, b⟩ => ⟨a, b.symm⟩))
            | (go_at_call 159; exact Calls.quiet_of_same ((R3.out _).mono fun _ _ ⟨a, b⟩ => ⟨a, b.symm⟩))
            | fail "noarm")
          rw [sumX_u32]
          go_upto_region 15 with fail
          obtain ⟨T1, hT1⟩ : ∃ T, R.sumX KK WW = T := ⟨_, rfl⟩
          rw [hT1]
          have HT1 := Lib.hid hT1
          clear hT1 k1 k2 R1 R2 R3 b0 b1 b2 b3 b4 b5 b6 b7
          refine wp_at (fun U => Fr noBlock wr U) (F3.out.drewN nq) ?_
          intro w5 f5
          obtain ⟨b0, b1, b2, -, -, -, -, -⟩ := HC2.out w5 f5
          have F5 := Lib.hid f5
          clear f5 F3
          have R1 := Lib.hid (rightP R.a (n := 2) (by decide) (z := 2) rfl)
          have R2 := Lib.hid (rightP R.a (n := 13) (by decide) (z := 13) rfl)
          have R3 := Lib.hid (rightP R.a (n := 22) (by decide) (z := 22) rfl)
          unfold RightP at R1 R2 R3
          go_quiet (first
            | (go_at_call 159; exact Calls.quiet_of_same ((R1.out _).mono fun _ _ ⟨a, b⟩ => ⟨a, b.symm⟩))
            | (go_at_call 159; exact Calls.quiet_of_same ((R2.out _).mono fun _ _ ⟨a, b⟩ => ⟨a, b.symm⟩))
            | (go_at_call 159; exact Calls.quiet_of_same ((R3.out _).mono fun _ _ ⟨a, b⟩ => ⟨a, b.symm⟩))
            | fail "noarm")
          rw [sumY_u32]
          go_upto_region 16 with fail
          obtain ⟨T2, hT2⟩ : ∃ T, R.sumY = T := ⟨_, rfl⟩
          rw [hT2]
          have HT2 := Lib.hid hT2
          clear hT2 R1 R2 R3 b0 b1 b2
          refine wp_at (fun U => Fr noBlock wr U) (F5.out.drewN nq) ?_
          intro w6 f6
          have HV6 := Lib.hid (((Fr.refl noBlock w6).drew).obj (f6.obj HV.out (fun z => z)) (fun z => z))
          have HW6 := Lib.hid ((HW.out.trans' f6).drew)
          clear f6 F5 HC2 HV HW
          go_region_law (refine step_copyW (by rfl) _ _ (by rfl) HV6.out (by rfl) (by rfl) (by rfl) ?_; intro w7 h7 f7)
          have HW7 := Lib.hid (HW6.out.trans f7 (fun q hq => .inr (by rw [hq]; exact Nat.le_of_eq hv)))
          have HV7 := Lib.hid h7
          clear h7 f7 HV6 HW6
          obtain ⟨b4, z4⟩ := words_cell HV7.out (i := 4) rfl
          obtain ⟨b0, z0⟩ := words_cell HV7.out (i := 0) rfl
          have HV8 := Lib.hid (words_set (words_set HV7.out 0 (T1 + T2)) 4 (R.d + T1))
          have HW8 := Lib.hid ((HW7.out.setCell (p := ⟨v, 0, none⟩) (.inr (Nat.le_of_eq hv)) (.int .u32 ((T1 + T2).toNat : Int))).setCell (p := ⟨v, 4, none⟩) (.inr (Nat.le_of_eq hv)) (.int .u32 ((R.d + T1).toNat : Int)))
          rw [← u32add, ← u32add] at HV8 HW8
          go_wp2_with fail
          refine ⟨?_, ?measure⟩
          (repeat apply Exists.intro)
          refine ⟨?rel, rfl⟩
          case rel =>
            refine ⟨t + 1, hlt, by go_num, ?_, HW8⟩
            rw [rounds, HR.out, HKW.out.1, HKW.out.2]
            have h := HV8.out
            rw [← HT1.out, ← HT2.out] at h
            exact Lib.hid (by rw [← HT1.out, ← HT2.out]; exact h)
          case measure => simp [intOf]; omega
        · have q2 : (64 : Int) ≤ (t : Int) := by omega
          obtain rfl : t = 64 := by omega
          clear hlt ht
          obtain ⟨R, hR⟩ : ∃ R, rounds x s 64 = R := ⟨_, rfl⟩
          have HR := Lib.hid hR
          rw [hR] at HV
          clear hR
          obtain ⟨w5, rfl⟩ : ∃ w5 : World, w5 = wr := ⟨_, rfl⟩
          have HA := Lib.hid (show w5.heap[a]? = some (headO (addL s R 0) (ca.toList.drop 8) ta) by
            have h := HW.out.obj (HF.out.obj ha (fun z => z)) (fun z => z)
            rw [h]
            unfold headO
            have e : (addL s R 0).map u32V ++ ca.toList.drop 8 = ca.toList := by
              show s.list.map u32V ++ _ = _
              rw [← hs, List.take_append_drop]
            rw [e])
          have hva : v ≠ a := fun e => by
            have := heap_lt (HF.out.obj ha (fun z => z))
            omega
          go_wp2_with fail
          go_loopw [146] (fun s146 U => ∃ i : Nat, i ≤ 8 ∧ s146 = .int .i64 i ∧ Hid (U.heap[a]? = some (headO (addL s R i) (ca.toList.drop 8) ta)) ∧ Hid (Fr (fun q => q = a) w5 U)) (fun s146 _ => 8 - (intOf s146).toNat)
          case atStart => exact ⟨0, by omega, rfl, HA, Lib.hid (Fr.refl _ _)⟩
          case round =>
            clear HA
            obtain ⟨i, hi, rfl, HA, HU⟩ := hrel
            by_cases hlt : i < 8
            · have q3 : (i : Int) < 8 := by omega
              have q0 : (0 : Int) ≤ (i : Int) := by omega
              obtain ⟨p, q, hp, hq, hset⟩ := addL_step s R hlt
              obtain ⟨g0, z0⟩ := head_cell HA.out hp
              have g1 := (words_cell (HU.out.obj HV.out hva) hq).1
              have HA2 := Lib.hid (head_set ((Fr.refl noBlock wr).drew.obj HA.out (fun z => z)) (i := i) (by rw [addL_len s R hi]; exact hlt) (p + q))
              rw [hset] at HA2
              have HU2 := Lib.hid (HU.out.drew.setCell (p := ⟨a, i, none⟩) (.inl rfl) (.int .u32 ((p + q).toNat : Int)))
              rw [← u32add] at HA2 HU2
              clear hp hq hset
              go_wp2_with fail
              go_still_tail 11, (by kernel_rfl)
              change wpList _ _ _ _ _ wr.drew
              go_wp2_with fail
              refine ⟨?_, ?measure⟩
              (repeat apply Exists.intro)
              refine ⟨?rel, rfl⟩
              case rel => exact ⟨i + 1, hlt, by go_num, HA2, HU2⟩
              case measure => simp [intOf]; omega
            · have q3 : (8 : Int) ≤ (i : Int) := by omega
              obtain rfl : i = 8 := by omega
              go_wp2_with fail
              go_end0
              refine ⟨rfl, (((HF.out.trans' HW.out).mono (fun _ z => z.elim)).trans' HU.out), ?_⟩
              rw [HA.out, addL_all]
              unfold headO shaB
              rw [rounds_take hl, HR.out]
end Go.Proofs.YthabllnhlhkejaaGreatDoor
