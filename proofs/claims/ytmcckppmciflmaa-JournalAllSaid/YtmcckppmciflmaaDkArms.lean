/-
  DiskArms: the walk. The power goes in the act that is told, and not ahead of it.
-/
import Derived.Test.YtmcckppmciflmaaDkSmall
import Derived.Test.YtmcckppmciflmaaDkOpen
import Derived.IntWalk
namespace Go.Proofs.Ytmcckppmciflmaa
open Go.RowKit

/-- a disk of three sectors, armed with so many acts -/
structure ArmedAt (d : DK) (k : Nat) (p : Int) : Prop where
  off : d.off = false
  arm : d.arm = some (k, p)
  size : d.size = 64
  len : d.safe.length = 3
theorem ArmedAt.isS {d : DK} {k : Nat} {p : Int} (h : ArmedAt d k p) {n : Int} (h0 : 0 ≤ n) (h3 : n < 3) : d.isS n = true := by unfold DK.isS; rw [h.len]; simp [h0]; omega
theorem ArmedAt.write {d : DK} {k : Nat} {p : Int} (h : ArmedAt d (k + 1) p) {n : Int} (h0 : 0 ≤ n) (h3 : n < 3) {b : Bs} (hb : b.length = 64) : d.writeE n b.length = 0 ∧ ArmedAt (d.write n b) k p := by
  have hi := h.isS h0 h3
  have hg : d.gone = false := by simp [DK.gone, h.arm]
  have hc : d.cut = { d with arm := some (k, p) } := by simp [DK.cut, h.arm]
  refine ⟨by simp [DK.writeE, h.off, hi, hb, h.size, hg], ?_⟩
  have e : d.write n b = { d.cut with dirty := putD d.dirty n.toNat b } := by simp [DK.write, h.off, hi, hb, h.size, hg]
  rw [e, hc]
  exact ⟨h.off, rfl, h.size, h.len⟩
theorem ArmedAt.flush {d : DK} {k : Nat} {p : Int} (h : ArmedAt d (k + 1) p) : d.flushE = 0 ∧ ArmedAt d.flush k p := by
  have hg : d.gone = false := by simp [DK.gone, h.arm]
  have hc : d.cut = { d with arm := some (k, p) } := by simp [DK.cut, h.arm]
  refine ⟨by simp [DK.flushE, h.off, hg], ?_⟩
  unfold DK.flush
  rw [if_neg (by simp [h.off]), hc]
  refine ⟨h.off, rfl, h.size, ?_⟩
  show (landL _ _).length = 3
  rw [landL_len]; exact h.len
/-- the power has gone -/
structure Down (d : DK) : Prop where
  off : d.off = true
  size : d.size = 64
  len : d.safe.length = 3
theorem ArmedAt.goes {d : DK} {p : Int} (h : ArmedAt d 0 p) : d.flushE = 30 ∧ Down d.flush := by
  have hg : d.gone = true := by simp [DK.gone, h.arm]
  have hc : d.cut = { d with off := true, arm := none } := by simp [DK.cut, h.arm]
  refine ⟨by simp [DK.flushE, h.off, hg], ?_⟩
  unfold DK.flush
  rw [if_neg (by simp [h.off]), hc]
  refine ⟨rfl, h.size, ?_⟩
  show (landL _ _).length = 3
  rw [landL_len]; exact h.len
theorem Down.write {d : DK} (h : Down d) (n : Int) (b : Bs) : d.writeE n b.length = 30 ∧ d.write n b = d := by simp [DK.writeE, DK.write, h.off]
theorem Down.boot {d : DK} (h : Down d) (keep : List Int) : (d.boot keep).off = false ∧ (d.boot keep).arm = none ∧ (d.boot keep).dirty = [] ∧ (d.boot keep).size = 64 ∧ (d.boot keep).safe.length = 3 := by
  refine ⟨rfl, rfl, rfl, h.size, ?_⟩
  show (landL _ _).length = 3
  rw [landL_len]; exact h.len
theorem booted {d : DK} (h : d.off = false ∧ d.arm = none ∧ d.dirty = [] ∧ d.size = 64 ∧ d.safe.length = 3) (b : Bs) (hb : b.length = 64) : d.writeE 0 b.length = 0 ∧ (d.write 0 b).flushE = 0 := by
  obtain ⟨h1, h2, h3, h4, h5⟩ := h
  have hg : d.gone = false := by simp [DK.gone, h2]
  have hc : d.cut = d := by simp [DK.cut, h2]
  have hi : d.isS 0 = true := by simp [DK.isS, h5]
  refine ⟨by simp [DK.writeE, h1, hi, hb, h4, hg], ?_⟩
  have e : d.write 0 b = { d with dirty := putD d.dirty 0 b } := by simp [DK.write, h1, hi, hb, h4, hg, hc]
  rw [e]
  simp [DK.flushE, h1, DK.gone, h2]
theorem armed_at {N : Nat} {p : Int} : ArmedAt ((DK.new 3 64).armed N p) N p := ⟨rfl, by simp [DK.armed], rfl, by simp [DK.armed, DK.new]⟩

theorem and_low (a : Int) (m : Nat) (hm : m ≤ 1000000) : ∃ N : Nat, N ≤ m ∧ bits .and .i64 a m = (N : Int) := by
  have h : (BitVec.ofInt 64 a &&& BitVec.ofInt 64 (m : Int)).toNat ≤ m := by
    rw [BitVec.toNat_and]
    refine Nat.le_trans Nat.and_le_right ?_
    have : (BitVec.ofInt 64 (m : Int)).toNat = m := by
      rw [BitVec.toNat_ofInt]
      omega
    omega
  refine ⟨_, h, ?_⟩
  show IntKind.i64.wrap (((BitVec.ofInt 64 a &&& BitVec.ofInt 64 (m : Int)).toNat : Nat) : Int) = _
  exact IntWalk.i64_in _ (by omega)

set_option maxRecDepth 100000 in
set_option maxHeartbeats 1600000 in
theorem arms_walk (acts part : Int) (ak : Option Addr) (ck : Nat) (keep : List Int) (w : World) (hp : (Lit.int .i64 part).wf = true) (hk : RowRd IntR w ak keep) :
    Calls Try.prog 5 #[.int .i64 acts, .int .i64 part, .slice ak keep.length ck] w fun e w' => e = .returned (.bool true) ∧ Below w.heap.size w w' := by
  obtain ⟨hp0, hp1⟩ := i64_wf hp
  have hkl := hk.len
  unfold maxLen at hkl
  have HK := Lib.hid hk
  obtain ⟨N, hN, hb⟩ := and_low acts 15 (by omega)
  have hb' : bits .and .i64 acts 15 = (N : Int) := hb
  clear hp hk hb
  go_enter Try.func5, Try.ntmps5
  go_wp2_with fail
  refine (small_any _).mono ?_
  rintro e w0 ⟨rfl, f0⟩
  go_wp2_with fail
  refine (new_mine (f0.below (Nat.le_refl _) (fun _ h => h.elim)) 3 64 (by kernel_rfl) (show _ = DK.new 3 64 from rfl)).mono ?_
  rintro e w1 ⟨l, F1, rfl, hm1⟩
  have M1 := Lib.hid hm1
  clear hm1 f0
  go_wp2_with fail
  refine (arm_any M1.out.it N part (by omega) hp0 hp1).mono ?_
  rintro e w2 ⟨rfl, h2, t2⟩
  have M2 := Lib.hid (M1.out.step (A' := DiskAt l ((DK.new 3 64).armed N part)) h2 t2)
  clear h2 t2 M1 hb'
  go_wp2_with fail
  go_loopw [11] (fun s11 wr => ∃ (i k : Nat) (d : DK) (F : Nat → Prop), i ≤ N ∧ Hid (k + i = N) ∧ s11 = .int .i64 i ∧ Hid (ArmedAt d k part) ∧ Mine w (DiskAt l d) wr F) (fun s11 _ => N - (intOf s11).toNat)
  case atStart => exact ⟨0, N, _, F1, Nat.zero_le _, Lib.hid rfl, rfl, Lib.hid armed_at, M2.out⟩
  case round =>
    obtain ⟨i, k, d, F, hi, HKI, rfl, HA, hm⟩ := hrel
    have M := Lib.hid hm
    clear hm M2
    by_cases hlt : i < N
    · have q1 : (i : Int) < (N : Int) := by omega
      have q0 : (0 : Int) ≤ (i : Int) := by omega
      obtain ⟨k', rfl⟩ : ∃ k', k = k' + 1 := ⟨k - 1, by have := HKI.out; omega⟩
      have hki : k' + (i + 1) = N := by have := HKI.out; omega
      have HKI' := Lib.hid hki
      clear HKI hki
      by_cases h2 : (i : Int) % 3 = 2
      · have hb2 : ((i : Int) % 3 == 2) = true := by simpa using h2
        clear h2
        go_wp2_with fail
        refine (flush_any M.out.it).mono ?_
        rintro e w3 ⟨F3, rfl, h3, t3⟩
        obtain ⟨e3, a3⟩ := HA.out.flush
        have M3 := Lib.hid (M.out.step (A' := DiskAt l d.flush) h3 t3)
        have A3 := Lib.hid a3
        rw [e3]
        clear h3 t3 e3 a3
        go_wp2_with fail
        refine (up_any M3.out.it).mono ?_
        rintro e w4 ⟨rfl, rfl⟩
        rw [A3.out.off]
        go_wp2_with fail
        go_roundw
        case rel => exact ⟨i + 1, k', _, F3, by omega, HKI', by go_num, A3, M3.out⟩
        case measure => simp [intOf]; omega
      · have hb2 : ((i : Int) % 3 == 2) = false := by simpa using h2
        have hm0 : 0 ≤ (i : Int) % 3 := by omega
        have hm1 : (i : Int) % 3 < 3 := by omega
        clear h2
        obtain ⟨c, hc⟩ : ∃ c : UInt8, IntKind.u8.wrap (i : Int) = (c.toNat : Int) := ⟨UInt8.ofNat i, by rw [UInt8.toNat_ofNat', IntWalk.u8_in _ (by omega)]; omega⟩
        go_wp2_with fail
        refine (fill_one wr c _).mono ?_
        rintro e w3 ⟨s3, rfl, hl3, hr3, hf3, hn3⟩
        have M3 := Lib.hid (M.out.fr DiskAt.ok hf3)
        have O3 := Lib.hid (Own.new (F := F) hr3 hl3 hn3 (M.out.lt DiskAt.ok))
        clear hr3 hl3 hn3 hf3
        go_wp2_with fail
        refine (write_own M3.out.it _ O3.out (by rw [fillB_len]; omega)).mono ?_
        rintro e w4 ⟨F4, rfl, h4, t4⟩
        obtain ⟨e4, a4⟩ := HA.out.write hm0 hm1 (fillB_len [c] 64)
        have M4 := Lib.hid (M3.out.step (A' := DiskAt l (d.write ((i : Int) % 3) (fillB [c] 64))) h4 t4)
        have A4 := Lib.hid a4
        rw [e4]
        clear h4 t4 e4 a4
        go_wp2_with fail
        refine (up_any M4.out.it).mono ?_
        rintro e w5 ⟨rfl, rfl⟩
        rw [A4.out.off]
        go_wp2_with fail
        go_roundw
        case rel => exact ⟨i + 1, k', _, F4, by omega, HKI', by go_num, A4, M4.out⟩
        case measure => simp [intOf]; omega
    · have q1 : (N : Int) ≤ (i : Int) := by omega
      obtain rfl : k = 0 := by have := HKI.out; omega
      obtain ⟨e3, a3⟩ := HA.out.goes
      have A3 := Lib.hid a3
      have E3 := Lib.hid e3
      clear hlt a3 e3 HKI
      go_wp2_with fail
      refine (flush_any M.out.it).mono ?_
      rintro e w3 ⟨F3, rfl, h3, t3⟩
      have M3 := Lib.hid (M.out.step (A' := DiskAt l d.flush) h3 t3)
      rw [E3.out]
      clear h3 t3
      go_wp2_with fail
      refine (up_any M3.out.it).mono ?_
      rintro e w4 ⟨rfl, rfl⟩
      rw [A3.out.off]
      go_wp2_with fail
      refine (fill64 (b := []) (ao := none) RowRd.nil 0 (by simp)).mono ?_
      rintro e w5 ⟨s5, rfl, hl5, hr5, hf5, hn5⟩
      have M5 := Lib.hid (M3.out.fr DiskAt.ok hf5)
      have O5 := Lib.hid (Own.new (F := F3) hr5 hl5 hn5 (M3.out.lt DiskAt.ok))
      clear hr5 hl5 hn5 hf5
      go_wp2_with fail
      refine (write_own M5.out.it 0 O5.out (by rw [fillB_len]; omega)).mono ?_
      rintro e w6 ⟨F6, rfl, h6, t6⟩
      obtain ⟨e6, f6⟩ := A3.out.write 0 (fillB [] 64)
      rw [f6] at h6
      have M6 := Lib.hid (M5.out.step (A' := DiskAt l d.flush) h6 t6)
      rw [e6]
      clear h6 t6 e6 f6
      have HB := Lib.hid (boot_any M6.out.it (Beside.arg HK.out M6.out) ck (by omega))
      go_wp2_with fail
      refine HB.out.mono ?_
      rintro e w7 ⟨F7, rfl, h7, t7⟩
      have hbt := A3.out.boot keep
      obtain ⟨e8, e9⟩ := booted hbt (fillB [] 64) (fillB_len _ _)
      have E8 := Lib.hid e8
      have E9 := Lib.hid e9
      have Hbt := Lib.hid hbt
      generalize d.flush.boot keep = db at *
      have M7 := Lib.hid (M6.out.step (A' := DiskAt l db) h7 t7)
      clear h7 t7 e8 e9 hbt HB
      go_wp2_with fail
      refine (up_any M7.out.it).mono ?_
      rintro e w8 ⟨rfl, rfl⟩
      rw [Hbt.out.1]
      go_wp2_with fail
      refine (dirty_any M7.out.it).mono ?_
      rintro e w9 ⟨ao9, cap9, rfl, r9, f9, n9⟩
      rw [Hbt.out.2.2.1]
      have M9 := Lib.hid (M7.out.fr DiskAt.ok f9)
      clear r9 f9 n9
      go_wp2_with fail
      refine (fill64 (b := []) (ao := none) RowRd.nil 0 (by simp)).mono ?_
      rintro e w10 ⟨s10, rfl, hl10, hr10, hf10, hn10⟩
      have M10 := Lib.hid (M9.out.fr DiskAt.ok hf10)
      have O10 := Lib.hid (Own.new (F := F7) hr10 hl10 hn10 (M9.out.lt DiskAt.ok))
      clear hr10 hl10 hn10 hf10
      go_wp2_with fail
      refine (write_own M10.out.it 0 O10.out (by rw [fillB_len]; omega)).mono ?_
      rintro e w11 ⟨F11, rfl, h11, t11⟩
      have M11 := Lib.hid (M10.out.step (A' := DiskAt l (db.write 0 (fillB [] 64))) h11 t11)
      rw [E8.out]
      clear h11 t11
      go_wp2_with fail
      refine (flush_any M11.out.it).mono ?_
      rintro e w12 ⟨F12, rfl, h12, t12⟩
      have M12 := Lib.hid (M11.out.step (A' := DiskAt l (db.write 0 (fillB [] 64)).flush) h12 t12)
      rw [E9.out]
      clear h12 t12
      go_wp2_with fail
      go_ret
      exact ⟨rfl, M12.out.below⟩
end Go.Proofs.Ytmcckppmciflmaa
