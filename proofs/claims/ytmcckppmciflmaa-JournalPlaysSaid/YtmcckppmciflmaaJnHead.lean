/-
  THE WALK of the journal's head.
-/
import Derived.BigRegion
import Derived.Test.YtmcckppmciflmaaJnSum
namespace Go.Proofs.Ytmcckppmciflmaa
open Go.RowKit

/-- the head's bytes, while they are laid -/
def headP (flag : UInt8) (l : List JW) (size i : Nat) : Bs := [flag, UInt8.ofNat l.length] ++ headN (l.take i) ++ List.replicate (size - 2 - 2 * i) 0
theorem headP_len (flag : UInt8) {l : List JW} {size i : Nat} (hi : i ≤ l.length) (hs : 2 + 2 * i ≤ size) : (headP flag l size i).length = size := by
  unfold headP
  simp only [List.length_append, headN_len, List.length_replicate, List.length_cons, List.length_nil, List.length_take]
  omega
theorem headP_zero (flag : UInt8) (l : List JW) {size : Nat} (hs : 2 ≤ size) : ((List.replicate size (0 : UInt8)).set 0 flag).set 1 (UInt8.ofNat l.length) = headP flag l size 0 := by
  obtain ⟨n, rfl⟩ : ∃ n, size = n + 2 := ⟨size - 2, by omega⟩
  unfold headP
  simp [List.replicate_succ, headN]
theorem headN_snoc {l : List JW} {i : Nat} (hi : i < l.length) : headN (l.take (i + 1)) = headN (l.take i) ++ by2 l[i].1.toNat := by
  unfold headN
  rw [List.take_succ_eq_append_getElem hi, List.flatMap_append]
  simp
theorem headP_step (flag : UInt8) {l : List JW} {size i : Nat} (hi : i < l.length) (hs : 4 + 2 * i ≤ size) : ((headP flag l size i).set (2 + 2 * i) (UInt8.ofNat (l[i].1.toNat / 256))).set (3 + 2 * i) (UInt8.ofNat l[i].1.toNat) = headP flag l size (i + 1) := by
  obtain ⟨n, hn⟩ : ∃ n, size - 2 - 2 * i = n + 2 := ⟨size - 4 - 2 * i, by omega⟩
  have hn2 : size - 2 - 2 * (i + 1) = n := by omega
  have hl : ([flag, UInt8.ofNat l.length] ++ headN (l.take i)).length = 2 + 2 * i := by simp [headN_len]; omega
  unfold headP
  rw [hn, hn2, headN_snoc hi, List.set_append_right _ _ (by rw [hl]; omega), hl, List.set_append_right _ _ (by rw [hl]; omega), hl, show 2 + 2 * i - (2 + 2 * i) = 0 by omega, show 3 + 2 * i - (2 + 2 * i) = 1 by omega]
  simp [List.replicate_succ, by2]
theorem headP_done (flag : UInt8) {l : List JW} {size : Nat} (hl : l.length ≤ 8) (hs : 22 ≤ size) : (headP flag l size l.length).take 18 ++ sumB l ++ (headP flag l size l.length).drop 22 = headB flag l size := by
  unfold headP headB
  rw [List.take_length]
  have e1 : ([flag, UInt8.ofNat l.length] ++ headN l).length = 2 + 2 * l.length := by simp [headN_len]; omega
  rw [List.take_append, List.take_of_length_le (by rw [e1]; omega), List.drop_append, List.drop_of_length_le (by rw [e1]; omega), e1, List.take_replicate, List.drop_replicate, List.nil_append]
  rw [show min (18 - (2 + 2 * l.length)) (size - 2 - 2 * l.length) = 16 - 2 * l.length by omega, show size - 2 - 2 * l.length - (22 - (2 + 2 * l.length)) = size - 22 by omega]
set_option maxRecDepth 100000 in
set_option maxHeartbeats 1600000 in
theorem jhead_any {j L : Nat} {d : DK} {bad : Int} {w : World} {H : Nat → Prop} (h : JAt j L d bad w H) {ao : Option Addr} {ws : List (Int × SV)} {l : List JW} (hw : JWrs w H ao ws l) (cap : Nat) (hl : l.length ≤ 8) (hsec : ∀ w ∈ l, 0 ≤ w.1 ∧ w.1 < 65536) (flag : UInt8) :
    Calls Try.prog 58 #[.pointer (some ⟨j, 0, none⟩), .int .u8 (flag.toNat : Int), .slice ao l.length cap] w (CloneP (headB flag l d.size) w) := by
  have HA := Lib.hid h
  have HW := Lib.hid hw
  have HSec := Lib.hid hsec
  have hlen := hw.len
  have hgd := h.good
  have hs0 := hgd.s0
  have hs1 := hgd.s1
  obtain ⟨c0, -, -, hj⟩ := h.cells
  obtain ⟨m, hm⟩ : ∃ m : Nat, d.size = m := ⟨_, rfl⟩
  rw [hm] at hs0 hs1 ⊢
  have hmk := fun W => run_make_row' (P := Try.prog) 23 5 (.int .u8 0) 1 Try.underlying23 infoB rfl .i64 .i64 m (by omega) (by omega) W
  have hmade := fun W => bytes_made W m (by unfold maxLen; omega)
  obtain ⟨Z, hZ⟩ : ∃ Z, madeCells #[.int .u8 0] m = Z := ⟨_, rfl⟩
  rw [hZ] at hmk hmade
  have Hmade := Lib.hid hmade
  have Hm := Lib.hid hm
  have hflag := flag.toNat_lt
  have HL := Lib.hid hlen
  clear hZ hmade hgd h hw hm hlen hsec
  go_enter Try.func58, Try.ntmps58
  go_wp2_with fail
  obtain ⟨G, hG, -, -⟩ := HA.out.disk
  refine (size_any hG).mono ?_
  rintro e w' ⟨rfl, rfl⟩
  rw [Hm.out]
  go_upto_region 2 with (fail)
  refine wp_at (φ := fun W => RowAt 5 ByteR W (.slice (some ⟨w.heap.size, 0, none⟩) m m) (List.replicate m 0) ∧ Fr noBlock w W) ⟨Hmade.out w, (Fr.refl _ _).alloc _⟩ ?_
  rintro w1 ⟨r0, f1⟩
  have hrl : (List.replicate m (0 : UInt8)).length = m := by simp
  obtain ⟨y0, z0⟩ := byte_at r0 (i := 0) (by rw [hrl]; omega)
  have r1 := byte_set r0 (i := 0) (by rw [hrl]; omega) flag
  have hrl1 : ((List.replicate m (0 : UInt8)).set 0 flag).length = m := by simp
  obtain ⟨y1, z1⟩ := byte_at r0 (i := 1) (by rw [hrl]; omega)
  have r2 := byte_set r1 (i := 1) (by rw [hrl1]; omega) (UInt8.ofNat l.length)
  rw [headP_zero flag l (by omega)] at r2
  have f2 := (f1.setCell (p := ⟨w.heap.size, 0, none⟩) (.inr (Nat.le_refl _)) (byteV flag)).setCell (p := ⟨w.heap.size, 1, none⟩) (.inr (Nat.le_refl _)) (byteV (UInt8.ofNat l.length))
  have hlv : (byteV (UInt8.ofNat l.length)) = .int .u8 (l.length : Int) := by unfold byteV; rw [u8_of]; congr 1; omega
  rw [hlv] at r2 f2
  have HR2 := Lib.hid (And.intro r2 f2)
  unfold byteV at y0 y1
  simp only [List.getElem_replicate] at y0 y1
  have hl8 : (l.length : Int) % 256 = (l.length : Int) := by omega
  clear r0 r1 r2 f1 f2 hlv hrl hrl1 hG
  go_wp2_with fail
  go_loopw [26] (fun s26 wr => ∃ i : Nat, i ≤ l.length ∧ s26 = .int .i64 i ∧ RowAt 5 ByteR wr (.slice (some ⟨w.heap.size, 0, none⟩) m m) (headP flag l m i) ∧ Fr noBlock w wr) (fun s26 _ => l.length - (intOf s26).toNat)
  case atStart => exact ⟨0, Nat.zero_le _, rfl, HR2.out.1, HR2.out.2⟩
  case round =>
    obtain ⟨i, hi, rfl, hR, hf⟩ := hrel
    have HR := Lib.hid hR
    have Hf := Lib.hid hf
    have hsz := hf.size
    clear hmk HR2 y0 y1 z0 z1
    by_cases hlt : i < l.length
    · have q1 : (i : Int) < (l.length : Int) := by omega
      obtain ⟨b, off, s, rfl, hb, x0, x1, -, -, -⟩ := (HW.out.fr hf).at' hlt
      have hpl := headP_len flag (l := l) (size := m) (i := i) hi (by omega)
      obtain ⟨ya, za⟩ := byte_at hR (i := 2 + 2 * i) (by omega)
      obtain ⟨yb, zb⟩ := byte_at hR (i := 3 + 2 * i) (by omega)
      have hst := headP_step flag (size := m) hlt (by omega)
      have hsec := HSec.out l[i] (List.getElem_mem hlt)
      generalize (headP flag l m i)[2 + 2 * i]'(by omega) = ca at *
      generalize (headP flag l m i)[3 + 2 * i]'(by omega) = cb at *
      generalize l[i] = q at *
      obtain ⟨qn, qb⟩ := q
      obtain ⟨hq0, hq1⟩ := hsec
      simp only at x0 x1 hst hq0 hq1
      have Hst := Lib.hid hst
      have hlw : w.heap.size < wr.heap.size := hR.lt _ rfl
      have wp1 : IntKind.i64.wrap (2 * (i : Int)) = 2 * (i : Int) := IntWalk.i64_in _ (by omega)
      have wp2 : IntKind.i64.wrap (2 + 2 * (i : Int)) = 2 + 2 * (i : Int) := IntWalk.i64_in _ (by omega)
      have wp3 : IntKind.i64.wrap (3 + 2 * (i : Int)) = 3 + 2 * (i : Int) := IntWalk.i64_in _ (by omega)
      have hv1 : byteV (UInt8.ofNat (qn.toNat / 256)) = .int .u8 (qn / 256) := by unfold byteV; rw [u8_of]; congr 1; omega
      have hv2 : byteV (UInt8.ofNat qn.toNat) = .int .u8 (qn % 256) := by unfold byteV; rw [u8_of]; congr 1; omega
      have hs1' := byte_set hR (i := 2 + 2 * i) (by omega) (UInt8.ofNat (qn.toNat / 256))
      have hs2' := byte_set hs1' (i := 3 + 2 * i) (by rw [List.length_set]; omega) (UInt8.ofNat qn.toNat)
      rw [hv1, hv2, hst] at hs2'
      have HS2 := Lib.hid hs2'
      have HF2 := Lib.hid ((hf.setCell (p := ⟨w.heap.size, 2 + 2 * i, none⟩) (.inr (Nat.le_refl _)) (.int .u8 (qn / 256))).setCell (p := ⟨w.heap.size, 3 + 2 * i, none⟩) (.inr (Nat.le_refl _)) (.int .u8 (qn % 256)))
      have hlt' : i + 1 ≤ l.length := by omega
      clear hst hR hf hlt hv1 hv2 hs1' hs2'
      go_wp2_with fail
      go_region
      go_wp2_with fail
      go_roundw
      case rel => exact ⟨i + 1, hlt', by go_num, HS2.out.fr0 (((Fr.refl noBlock _).alloc _).drew), (HF2.out.alloc _).drew⟩
      case measure => simp [intOf]; omega
    · have q1 : (l.length : Int) ≤ (i : Int) := by omega
      have e : i = l.length := by omega
      subst e
      have hpl := headP_len flag (l := l) (size := m) (i := l.length) (Nat.le_refl _) (by omega)
      have hdn := headP_done flag (l := l) (size := m) hl (by omega)
      have Hdn := Lib.hid hdn
      have Hpl := Lib.hid hpl
      have hm18 : (18 : Int) ≤ (m : Int) := by omega
      have hne : ¬ m = 18 := by omega
      clear hR hf hlt hpl hdn
      go_wp2_with fail
      go_region_held3 (fun W => True) (trivial)
        (first
          | (go_at_call 71; (with_reducible refine (jsum_any (HW.out.fr (Hf.out.drew)) cap (by omega)).mono ?_); rintro e w5 ⟨s5, rfl, h5a, h5b, h5c, h5d⟩; obtain ⟨sa, sn, sc⟩ := s5; simp only at h5a; rw [sumB_len] at h5a; subst h5a)
          | (refine step_cp (by rfl) _ _ (by rfl) (headP flag l m l.length) (sumB l) (HR.out.fr0 (((Fr.refl noBlock _).drew).trans' h5c)) 18 4 (by rfl) (by rfl) (RowAt.rd h5b) rfl (by rw [sumB_len]; omega) (fun _ => rfl) (by rw [Hpl.out]; omega) ?_; intro w6 r6 f6))
      have HX := Lib.hid (And.intro r6 ((Hf.out.drew).trans' h5c |>.trans f6 (fun k hk => by subst hk; exact .inr (Nat.le_refl _))))
      clear r6 h5b h5c h5d f6
      go_wp2_with fail
      go_ret
      have h1 := HX.out.1
      rw [show (sumB l).take 4 = sumB l by rfl, Hdn.out] at h1
      exact ⟨⟨some ⟨w.heap.size, 0, none⟩, m, m⟩, rfl, (headB_len flag hl (show 22 ≤ m by omega)).symm, h1, HX.out.2, fun k hk => by cases hk; exact Nat.le_refl _⟩
end Go.Proofs.Ytmcckppmciflmaa
