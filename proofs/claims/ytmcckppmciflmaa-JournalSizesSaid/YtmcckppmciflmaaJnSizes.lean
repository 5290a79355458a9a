/-
  JournalSizes: the walk.
-/
import Derived.Test.YtmcckppmciflmaaJnSmall
namespace Go.Proofs.Ytmcckppmciflmaa
open Go.RowKit

theorem new_flag {n : Nat} (hn : 10 ≤ n) : openR (DK.new n 64) = (DK.new n 64, 0) := by
  have h0 : (DK.new n 64).isS 0 = true := DK.isS_iff.2 ⟨by omega, by simp [DK.new]; omega⟩
  have hb : (DK.new n 64).readB 0 = List.replicate 64 0 := by
    unfold DK.readB
    rw [h0]
    show (Option.none.getD ((List.replicate n (List.replicate 64 (0 : UInt8))).getD 0 [])) = _
    simp [List.getD, show 0 < n by omega]
  unfold openR
  rw [if_neg (by simp [DK.new]; omega), hb]
  simp only [DK.new]
  rfl
theorem new_few {n : Nat} (hn : n ≤ 9) : openR (DK.new n 64) = (DK.new n 64, 1) := by
  unfold openR
  rw [if_pos (by simp [DK.new]; omega)]
theorem may_one (d : DK) (n : Int) (b : Bs) (hb : b.length = d.size) : mayE d [(n, b)] = if isJ d n then 0 else 31 := by
  unfold mayE
  rw [if_neg (by simp), mayL_cons, if_neg (by simpa using hb)]
  cases isJ d n <;> simp [mayL]

/-- what an unarmed disk's journal reads, behind a Commit -/
theorem readE_after {d e : DK} (h1 : e.safe.length = d.safe.length) (h2 : e.off = false) (n : Int) : jreadE e n = if isJ d n then 0 else 31 := by
  have hj : isJ e n = isJ d n := by unfold isJ secs; rw [h1]
  unfold jreadE
  rw [hj, h2]
  cases hi : isJ d n with
  | false => rfl
  | true =>
    have : e.isS (9 + n) = true := by
      unfold isJ secs at hi
      rw [Bool.and_eq_true] at hi
      have a := of_decide_eq_true hi.1
      have b := of_decide_eq_true hi.2
      exact DK.isS_iff.2 ⟨by omega, by rw [h1]; omega⟩
    unfold DK.readE
    rw [h2, this]
    rfl
set_option maxRecDepth 100000 in
set_option maxHeartbeats 3200000 in
theorem sizes_walk (sectors n : Int) (bo : Option Addr) (bc : Nat) (b : List UInt8) (w : World) (hn0 : -9223372036854775808 ≤ n) (hn1 : n ≤ 9223372036854775807) (hb : RowRd ByteR w bo b) :
    Calls Try.prog 9 #[.int .i64 sectors, .int .i64 n, .slice bo b.length bc] w fun e w' => e = .returned (.bool true) ∧ Below w.heap.size w w' := by
  have hbl := hb.len
  unfold maxLen at hbl
  have HB := Lib.hid hb
  clear hb
  cases hok : newOk sectors 64 with
  | false =>
    have HO := Lib.hid hok
    clear hok
    go_enter Try.func9, Try.ntmps9
    go_wp2_with fail
    refine (jsmall_any _).mono ?_
    rintro e w0 ⟨rfl, f0⟩
    go_wp2_with fail
    refine (new_no sectors 64 _ HO.out).mono ?_
    rintro e w1 ⟨rfl, rfl⟩
    have HF := Lib.hid (f0.below (Nat.le_refl _) (fun _ h => h.elim))
    clear f0
    go_wp2_with fail
    go_ret
    exact ⟨rfl, HF.out⟩
  | true =>
    have hok2 := hok
    simp only [newOk, Bool.and_eq_true, decide_eq_true_eq] at hok2
    obtain ⟨⟨⟨s1, s2⟩, -⟩, -⟩ := hok2
    obtain ⟨N, rfl⟩ : ∃ N : Nat, sectors = N := ⟨sectors.toNat, by omega⟩
    have HO := Lib.hid hok
    clear hok
    by_cases hN : N ≤ 9
    · have q1 : (N : Int) < 10 := by omega
      have hfw := new_few hN
      have HFw := Lib.hid hfw
      clear hfw hN
      go_enter Try.func9, Try.ntmps9
      go_wp2_with fail
      refine (jsmall_any _).mono ?_
      rintro e w0 ⟨rfl, f0⟩
      go_wp2_with fail
      refine (new_mine (f0.below (Nat.le_refl _) (fun _ h => h.elim)) N 64 HO.out (d := DK.new N 64) (by simp)).mono ?_
      rintro e w1 ⟨L, F1, rfl, hm1⟩
      have M1 := Lib.hid hm1
      clear hm1 f0
      go_wp2_with fail
      refine (jopen_any M1.out.it).mono ?_
      rintro e w2 hO
      rcases hO with ⟨h1, _⟩ | ⟨h1, F2, rfl, h2, s2⟩
      · rw [HFw.out] at h1; simp at h1
      · have M2 := Lib.hid (M1.out.step (A' := DiskAt L _) h2 s2)
        rw [HFw.out]
        clear h1 h2 s2
        go_wp2_with fail
        go_ret
        exact ⟨rfl, M2.out.below⟩
    · have q1 : (10 : Int) ≤ (N : Int) := by omega
      have hfw := new_flag (n := N) (by omega)
      have HFw := Lib.hid hfw
      obtain ⟨d0, hd0⟩ : ∃ d0, DK.new N 64 = d0 := ⟨_, rfl⟩
      have hsecs : secs d0 = (N : Int) - 9 := by rw [← hd0]; simp [secs, DK.new]
      have hun := commit_unarmed (d := d0) (by rw [← hd0]; rfl) (by rw [← hd0]; rfl) (by rw [← hd0]; simp [DK.new]; omega) (by rw [← hd0]; simp [DK.new]) [(n, fillB b 64)]
      rw [may_one d0 n _ (by rw [fillB_len, ← hd0]; rfl)] at hun
      have hre := readE_after hun.2.2.2.2.1 hun.2.2.1 n
      have HU := Lib.hid (And.intro hun hre)
      have hsz0 : d0.size = 64 := by rw [← hd0]; rfl
      have Hsz0 := Lib.hid hsz0
      have Hsecs := Lib.hid hsecs
      rw [hd0] at HFw
      have Hd0 := Lib.hid hd0
      have hcs : isJ d0 n = true ∧ 0 ≤ n ∧ n < (N : Int) - 9 ∨ isJ d0 n = false ∧ n < 0 ∨ isJ d0 n = false ∧ 0 ≤ n ∧ (N : Int) - 9 ≤ n := by
        unfold isJ
        rw [hsecs]
        by_cases a : 0 ≤ n
        · by_cases c : n < (N : Int) - 9
          · left; exact ⟨by simp [a]; exact c, a, c⟩
          · right; right; exact ⟨by simp [a]; omega, a, by omega⟩
        · right; left; exact ⟨by simp [a], by omega⟩
      clear hfw hN hsecs hun hre hsz0 hd0
      rcases hcs with ⟨hj, a1, a2⟩ | ⟨hj, a1⟩ | ⟨hj, a1, a2⟩
      all_goals
        rw [hj] at HU
        simp only [Bool.false_eq_true, if_false, if_true] at HU
        clear hj
        go_enter Try.func9, Try.ntmps9
        go_wp2_with fail
        refine (jsmall_any _).mono ?_
        rintro e w0 ⟨rfl, f0⟩
        go_wp2_with fail
        refine (new_mine (f0.below (Nat.le_refl _) (fun _ h => h.elim)) N 64 HO.out (d := d0) (by simp [Hd0.out])).mono ?_
        rintro e w1 ⟨L, F1, rfl, hm1⟩
        have M1 := Lib.hid hm1
        clear hm1 f0
        go_wp2_with fail
        refine (jopen_any M1.out.it).mono ?_
        rintro e w2 hO
        obtain ⟨j, H2, rfl, h2, s2⟩ := hO.ok HFw.out
        have M2 := Lib.hid (M1.out.step (A' := JAt j L d0 0) h2 s2)
        clear h2 s2 hO
        go_wp2_with fail
        refine (jsectors_any M2.out.it).mono ?_
        rintro e w2' ⟨rfl, rfl⟩
        rw [Hsecs.out]
        go_wp2_with fail
        refine (jsize_any M2.out.it).mono ?_
        rintro e w2' ⟨rfl, rfl⟩
        rw [Hsz0.out]
        go_wp2_with fail
        refine (fill64 (HB.out.below M2.out.below) bc (by omega)).mono ?_
        rintro e w3 ⟨⟨sa, sn, sc⟩, rfl, hl3, hr3, hf3, hn3⟩
        simp only at hl3
        subst hl3
        have M3 := Lib.hid (M2.out.fr JAt.ok hf3)
        have B3 := Lib.hid (show Bes ByteR sa (fillB b 64) w3 H2 from Bes.new (w0 := w2) hr3 hn3 (JAt.ok.lt M2.out.it))
        clear hr3 hn3 hf3
        unfold SV.val
        dsimp only
        go_wp2_with fail
        have f9 := (Fr.refl noBlock w3).alloc (.cells #[.int .i64 n, .slice sa (fillB b 64).length sc] 69)
        have M4 := Lib.hid (M3.out.fr JAt.ok f9)
        have J4 := Lib.hid (show JWrs (w3.alloc (.cells #[.int .i64 n, .slice sa (fillB b 64).length sc] 69)) H2 (some ⟨w3.heap.size, 0, none⟩) [(n, ⟨sa, (fillB b 64).length, sc⟩)] [(n, fillB b 64)] from
          JWrs.lit (heap_new w3 _) rfl (fun h => Nat.lt_irrefl _ (JAt.ok.lt M3.out.it _ h)) rfl (by unfold maxLen; simp) (fun i p q a c => by
            rcases i with _ | i
            · simp at a c; subst a c; exact ⟨rfl, rfl, B3.out.fr f9⟩
            · simp at a))
        have hcm := jcommit_any M4.out.it J4.out 1 (by simp) (by simp) (by intro v hv; simp at hv; subst hv; simp [fillB_len])
        have Hcm := Lib.hid hcm
        clear f9 hcm
        refine Hcm.out.mono ?_
        rintro e w5 ⟨H5, rfl, h5, s5⟩
        have M5 := Lib.hid (M4.out.step (A' := JAt j L (commitR d0 0 [(n, fillB b 64)]).1 (commitR d0 0 [(n, fillB b 64)]).2.1) h5 s5)
        rw [HU.out.1.2.1]
        clear h5 s5
        go_wp2_with fail
        refine (jread_any M5.out.it n).mono ?_
        rintro e w6 ⟨s6, rfl, hl6, hr6, hf6, hn6⟩
        have M6 := Lib.hid (M5.out.fr JAt.ok hf6)
        rw [HU.out.2]
        clear hl6 hr6 hf6 hn6
        go_wp2_with fail
        go_ret
        exact ⟨ret_bool (by first | rfl | (simp; omega)), M6.out.below⟩
end Go.Proofs.Ytmcckppmciflmaa
