/-
  DiskApart: the walk. A write changes no other sector.
-/
import Derived.Test.YtmcckppmciflmaaDkSmall
import Derived.Test.YtmcckppmciflmaaDkOpen
namespace Go.Proofs.Ytmcckppmciflmaa
open Go.RowKit

/-- a disk of five sectors that nobody has armed -/
structure Calm (d : DK) : Prop where
  off : d.off = false
  arm : d.arm = none
  size : d.size = 64
  len : d.safe.length = 5
theorem Calm.cut {d : DK} (h : Calm d) : d.cut = d := by simp [DK.cut, h.arm]
theorem Calm.gone {d : DK} (h : Calm d) : d.gone = false := by simp [DK.gone, h.arm]
theorem Calm.write {d : DK} (h : Calm d) (n : Int) (b : Bs) : Calm (d.write n b) := by
  unfold DK.write
  rw [if_neg (by simp [h.off])]
  split
  · exact h
  · split
    · exact h
    · rw [h.gone, h.cut]
      exact ⟨h.off, h.arm, h.size, h.len⟩
theorem Calm.flush {d : DK} (h : Calm d) : Calm d.flush := by
  unfold DK.flush
  rw [if_neg (by simp [h.off]), h.cut]
  refine ⟨h.off, h.arm, h.size, ?_⟩
  show (landL _ _).length = 5
  rw [landL_len]; exact h.len
theorem Calm.new : Calm (DK.new 5 64) := ⟨rfl, rfl, rfl, by simp [DK.new]⟩
theorem Calm.isS {d : DK} (h : Calm d) (n : Int) : d.isS n = (decide (0 ≤ n) && decide (n < 5)) := by unfold DK.isS; rw [h.len]; rfl
theorem Calm.writeE {d : DK} (h : Calm d) (n : Int) : d.writeE n 64 = if (decide (0 ≤ n) && decide (n < 5)) = false then 31 else 0 := by
  unfold DK.writeE
  rw [if_neg (by simp [h.off]), h.isS, h.size, h.gone]
  split <;> simp
theorem Calm.readE {d : DK} (h : Calm d) (k n : Int) (b : Bs) : (d.write n b).readE k = d.readE k := by
  have hw := h.write n b
  unfold DK.readE
  rw [h.off, hw.off, h.isS, hw.isS]
theorem Calm.readB {d : DK} (h : Calm d) (k n : Int) (b : Bs) (hn : n = k → (decide (0 ≤ n) && decide (n < 5)) = false) : (d.write n b).readB k = d.readB k := by
  have hw := h.write n b
  unfold DK.readB
  rw [h.off, hw.off, h.isS, hw.isS]
  simp only [Bool.false_eq_true, if_false]
  split
  · rfl
  · rename_i hk
    unfold DK.write
    rw [if_neg (by simp [h.off]), h.isS]
    split
    · rfl
    · rename_i hs
      split
      · rfl
      · rw [h.gone, h.cut]
        simp only [Bool.false_and, Bool.false_eq_true, if_false]
        have hs' : 0 ≤ n ∧ n < 5 := by simpa using hs
        rw [putD_look, if_neg]
        intro e
        have : n = k := by omega
        have := hn this
        rw [this] at hs
        simp at hs

/-- Write, Fill at rows of our own -/
theorem write_own {l : Nat} {d : DK} {w : World} {F : Nat → Prop} (h : DiskAt l d w F) (n : Int) {s : SV} {b : Bs} (o : Own s b w F) (hb : b.length ≤ 9223372036854775807) : Calls Try.prog 13 #[.pointer (some ⟨l, 0, none⟩), .int .i64 n, s.val] w (WriteP l (d.write n b) (d.writeE n b.length) F w) := by
  rw [o.val]; exact write_any h n o.rd o.apA s.cap hb

set_option maxRecDepth 100000 in
set_option maxHeartbeats 1600000 in
theorem apart_walk (ao : Option Addr) (cap : Nat) (xs : List DAct) (n : Int) (bo : Option Addr) (bc : Nat) (b : List UInt8) (k : Int) (w : World) (hx : RowRd DActR w ao xs) (hxs : ∀ y ∈ xs, y.Ok w) (hb : RowRd ByteR w bo b) :
    Calls Try.prog 3 #[.slice ao xs.length cap, .int .i64 n, .slice bo b.length bc, .int .i64 k] w fun e w' => e = .returned (.bool true) ∧ Below w.heap.size w w' := by
  have hl := hx.len
  have hbl := hb.len
  unfold maxLen at hl hbl
  have Hxs := Lib.hid hxs
  have HB := Lib.hid hb
  have HX := Lib.hid hx
  clear hxs hb hx
  go_enter Try.func3, Try.ntmps3
  go_wp2_with fail
  refine (small_any _).mono ?_
  rintro e w0 ⟨rfl, f0⟩
  go_wp2_with fail
  refine (new_mine (f0.below (Nat.le_refl _) (fun _ h => h.elim)) 5 64 (by kernel_rfl) (show _ = DK.new 5 64 from rfl)).mono ?_
  rintro e w1 ⟨l, F1, rfl, hm1⟩
  have M1 := Lib.hid hm1
  clear hm1 f0
  go_wp2_with fail
  go_loopw [12] (fun s12 wr => ∃ (i : Nat) (d : DK) (F : Nat → Prop), i ≤ xs.length ∧ s12 = .int .i64 i ∧ Hid (Calm d) ∧ Mine w (DiskAt l d) wr F) (fun s12 _ => xs.length - (intOf s12).toNat)
  case atStart => exact ⟨0, _, F1, Nat.zero_le _, rfl, Lib.hid Calm.new, M1.out⟩
  case round =>
    obtain ⟨i, d, F, hi, rfl, HC, hm⟩ := hrel
    have M := Lib.hid hm
    clear hm M1
    by_cases hlt : i < xs.length ∧ i < 30
    · obtain ⟨hlt, h2⟩ := hlt
      have q1 : (i : Int) < (xs.length : Int) := by omega
      have q2 : (i : Int) < 30 := by omega
      obtain ⟨ba, off, rfl, hbb, c0, c1, c2, c3, c4⟩ := dact_cells HX.out hlt
      have Ha := Lib.hid (Hxs.out _ (List.getElem_mem hlt))
      generalize xs[i] = a at *
      have y0 := (M.out.below.cell (p := ⟨ba, off + i * 5, none⟩) hbb).trans c0
      have y1 := (M.out.below.cell (p := ⟨ba, off + i * 5 + 1, none⟩) hbb).trans c1
      have y3 := (M.out.below.cell (p := ⟨ba, off + i * 5 + 3, none⟩) hbb).trans c3
      have Hc13 := Lib.hid (And.intro c1 c3)
      have C0 := Lib.hid c0
      have hi' : i + 1 ≤ xs.length := by omega
      clear c0 c1 c2 c3 c4 hlt
      by_cases ho : a.op = 0
      · rw [ho] at y0 C0
        have hS0 := And.intro y1 y3
        have HS0 := Lib.hid hS0
        have Hbb := Lib.hid hbb
        have Hsz := Lib.hid (show a.b.length ≤ 9223372036854775807 by have := Ha.out.b.len; unfold maxLen at this; omega)
        have HltF := Lib.hid (show ∀ k, F k → k < wr.heap.size from M.out.lt DiskAt.ok)
        clear ho hS0
        go_wp2_with fail
        go_region_held3 (fun W => W.cell? ⟨ba, off + i * 5 + 1, none⟩ = some (.int .i64 a.n) ∧ W.cell? ⟨ba, off + i * 5 + 3, none⟩ = some (.slice a.bo a.b.length a.bc))
          (first | exact HS0.out | exact hS2 | exact hS1)
          (first
            | (go_at_call 14; (with_reducible refine (fill64 (b := a.b) (RowRd.below (w := w) Ha.out.b (M.out.fr DiskAt.ok ((Fr.refl _ _).drew)).below) a.bc Hsz.out).mono ?_); rintro e w11 ⟨s, rfl, hls, hrs, hfs, hns⟩; have hT := (M.out.fr DiskAt.ok ((Fr.refl _ _).drew)).fr DiskAt.ok hfs; have hO := Own.new (F := F) hrs hls hns HltF.out; have hS1 := And.intro ((hT.below.cell (p := ⟨ba, off + i * 5 + 1, none⟩) Hbb.out).trans Hc13.out.1) ((hT.below.cell (p := ⟨ba, off + i * 5 + 3, none⟩) Hbb.out).trans Hc13.out.2))
            | (go_at_call 13; (with_reducible refine (write_own hT.it a.n hO (by rw [fillB_len]; omega)).mono ?_); rintro e w12 ⟨F12, rfl, h12, t12⟩; have hT2 := hT.step (A' := DiskAt l (d.write a.n (fillB a.b 64))) h12 t12; have hS2 := And.intro ((hT2.below.cell (p := ⟨ba, off + i * 5 + 1, none⟩) Hbb.out).trans Hc13.out.1) ((hT2.below.cell (p := ⟨ba, off + i * 5 + 3, none⟩) Hbb.out).trans Hc13.out.2)))
        have z0 := (hT2.below.cell (p := ⟨ba, off + i * 5, none⟩) Hbb.out).trans C0.out
        have HT2 := Lib.hid hT2
        clear hT hT2 hO hS1 hS2 h12 t12 hrs hls hns hfs y0 y1 y3 hbb
        go_wp2_with fail
        go_roundw
        case rel => exact ⟨i + 1, _, F12, hi', by go_num, Lib.hid (HC.out.write a.n (fillB a.b 64)), HT2.out⟩
        case measure => simp [intOf]; omega
      · by_cases ho2 : a.op = 2
        · rw [ho2] at y0
          clear ho
          go_wp2_with fail
          refine (flush_any M.out.it).mono ?_
          rintro e w3 ⟨F3, rfl, h3, t3⟩
          have M3 := Lib.hid (M.out.step (A' := DiskAt l d.flush) h3 t3)
          clear h3 t3
          go_wp2_with fail
          go_roundw
          case rel => exact ⟨i + 1, _, F3, hi', by go_num, Lib.hid HC.out.flush, M3.out⟩
          case measure => simp [intOf]; omega
        · go_wp2_with fail
          go_roundw
          case rel => exact ⟨i + 1, d, F, hi', by go_num, HC, M.out⟩
          case measure => simp [intOf]; omega
    · have hex : (xs.length : Int) ≤ (i : Int) ∨ ((i : Int) < (xs.length : Int) ∧ 30 ≤ (i : Int)) := by omega
      obtain ⟨x, hx⟩ : ∃ x, d.readE k = x := ⟨_, rfl⟩
      have Hx := Lib.hid hx
      have Hx2 := Lib.hid ((HC.out.readE k n (fillB b 64)).trans hx)
      have Hl64 := Lib.hid (fillB_len b 64)
      have hw := HC.out.writeE n
      have hrd := HC.out.readB k n (fillB b 64)
      have hcs : ∃ (g : Int) (q : Bool), d.writeE n 64 = g ∧ (n == k) = q ∧ ((g = 0 ∧ 0 ≤ n ∧ n < 5 ∧ q = true) ∨ (g = 0 ∧ 0 ≤ n ∧ n < 5 ∧ q = false ∧ (d.write n (fillB b 64)).readB k = d.readB k) ∨ (g = 31 ∧ n < 0 ∧ (d.write n (fillB b 64)).readB k = d.readB k) ∨ (g = 31 ∧ 5 ≤ n ∧ (d.write n (fillB b 64)).readB k = d.readB k)) := by
        refine ⟨_, _, rfl, rfl, ?_⟩
        rw [hw]
        by_cases h0 : 0 ≤ n
        · by_cases h5 : n < 5
          · have e1 : (decide (0 ≤ n) && decide (n < 5)) = true := by simp [h0, h5]
            rw [if_neg (by rw [e1]; simp)]
            by_cases e : n = k
            · exact .inl ⟨rfl, h0, h5, by simp [e]⟩
            · exact .inr (.inl ⟨rfl, h0, h5, by simp [e], hrd (fun h => absurd h e)⟩)
          · have e1 : (decide (0 ≤ n) && decide (n < 5)) = false := by simp; omega
            rw [if_pos e1]
            exact .inr (.inr (.inr ⟨rfl, by omega, hrd (fun _ => e1)⟩))
        · have e1 : (decide (0 ≤ n) && decide (n < 5)) = false := by simp; omega
          rw [if_pos e1]
          exact .inr (.inr (.inl ⟨rfl, by omega, hrd (fun _ => e1)⟩))
      obtain ⟨g, q, hg, hq, hcs⟩ := hcs
      have Hg := Lib.hid hg
      have hxx : (x == x) = true := by simp
      clear hlt hx hw hrd hg
      have hcs2 : ∃ rd, (d.write n (fillB b 64)).readB k = rd ∧ ((g = 0 ∧ 0 ≤ n ∧ n < 5 ∧ q = true) ∨ (g = 0 ∧ 0 ≤ n ∧ n < 5 ∧ q = false ∧ rd = d.readB k) ∨ (g = 31 ∧ n < 0 ∧ rd = d.readB k) ∨ (g = 31 ∧ 5 ≤ n ∧ rd = d.readB k)) := ⟨_, rfl, hcs⟩
      obtain ⟨rd, hrd, hcs2⟩ := hcs2
      have Hrd := Lib.hid hrd
      clear hcs hrd
      cases q
      all_goals rcases hex with hex | ⟨hex, hex2⟩
      all_goals rcases hcs2 with ⟨rfl, n1, n2, hqq⟩ | ⟨rfl, n1, n2, hqq, rfl⟩ | ⟨rfl, n1, rfl⟩ | ⟨rfl, n1, rfl⟩
      all_goals try (exfalso; exact Bool.noConfusion hqq)
      all_goals
        go_wp2_with fail
        refine (read_any M.out.it k).mono ?_
        rintro e w2 ⟨s2, rfl, hl2, hr2, hf2, hn2⟩
        rw [Hx.out]
        have M2 := Lib.hid (M.out.fr DiskAt.ok hf2)
        have O2 := Lib.hid (Own.new (F := F) hr2 hl2 hn2 (M.out.lt DiskAt.ok))
        clear hr2 hl2 hn2 hf2
        go_wp2_with fail
        refine (fill64 (RowRd.below (w := w) HB.out M2.out.below) bc (by omega)).mono ?_
        rintro e w3 ⟨s3, rfl, hl3, hr3, hf3, hn3⟩
        have M3 := Lib.hid (M2.out.fr DiskAt.ok hf3)
        have O23 := Lib.hid (O2.out.fr hf3)
        have O3 := Lib.hid (Own.new (F := F) hr3 hl3 hn3 (M2.out.lt DiskAt.ok))
        clear hr3 hl3 hn3 hf3 O2
        go_wp2_with fail
        refine (write_own M3.out.it n O3.out (by rw [fillB_len]; omega)).mono ?_
        rintro e w4 ⟨F4, rfl, h4, t4⟩
        have M4 := Lib.hid (M3.out.step (A' := DiskAt l (d.write n (fillB b 64))) h4 t4)
        have O24 := Lib.hid (O23.out.step t4)
        rw [Hl64.out, Hg.out]
        clear h4 t4 O23
        go_wp2_with fail
        refine (read_any M4.out.it k).mono ?_
        rintro e w5 ⟨s5, rfl, hl5, hr5, hf5, hn5⟩
        rw [Hx2.out]
        rw [Hrd.out] at hr5 hl5
        have O25 := Lib.hid (O24.out.fr hf5)
        have O5 := Lib.hid (Own.new (F := F4) hr5 hl5 hn5 (M4.out.lt DiskAt.ok))
        have HBl := Lib.hid (M4.out.below.trans (hf5.below M4.out.size (fun _ h => h.elim)))
        have k1 := conv_rd O25.out.rd s2.cap
        have k2 := conv_rd O5.out.rd s5.cap
        rw [O5.out.val]
        have ev := O25.out.val
        clear hr5 hl5 hn5 hf5 O24
        go_wp2_with fail
        go_ret
        exact ⟨ret_bool (by first | rfl | (simp; done) | (simp; omega)), HBl.out⟩
end Go.Proofs.Ytmcckppmciflmaa
