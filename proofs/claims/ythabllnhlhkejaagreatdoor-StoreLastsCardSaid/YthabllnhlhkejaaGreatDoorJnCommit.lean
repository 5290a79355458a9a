/-
  THE WALK of the journal's Commit.
-/
import Derived.BigRegion
import Derived.Test.YthabllnhlhkejaaGreatDoorJnOpen
import Derived.Test.YthabllnhlhkejaaGreatDoorJnMay
namespace Go.Proofs.YthabllnhlhkejaaGreatDoor
open Go.RowKit

/-- the head's bytes, while they are laid -/
def headP (flag : UInt8) (l : List JW) (size i : Nat) : Bs := [flag, UInt8.ofNat l.length] ++ headN (l.take i) ++ List.replicate (size - 2 - 2 * i) 0
theorem headP_len (flag : UInt8) {l : List JW} {size i : Nat} (hi : i ≤ l.length) (hs : 2 + 2 * i ≤ size) : (headP flag l size i).length = size := by
  unfold headP
  simp only [List.length_append, headN_len, List.length_replicate, List.length_cons, List.length_nil, List.length_take]
  omega
theorem headP_zero (flag : UInt8) (l : List JW) {size : Nat} (hs : 2 ≤ size) : ((List.replicate size (0 : UInt8)).set 0 flag).set 1 (UInt8.ofNat l.length) = headP flag l size 0 := by
  obtain ⟨n, rfl⟩ : ∃ n, size = n + 2 := ⟨size - 2, by omega⟩
  unfold headP
  simp [List.replicate_succ, headN]
theorem headN_snoc {l : List JW} {i : Nat} (hi : i < l.length) : headN (l.take (i + 1)) = headN (l.take i) ++ by2 l[i].1.toNat := by
  unfold headN
  rw [List.take_succ_eq_append_getElem hi, List.flatMap_append]
  simp
theorem headP_step (flag : UInt8) {l : List JW} {size i : Nat} (hi : i < l.length) (hs : 4 + 2 * i ≤ size) : ((headP flag l size i).set (2 + 2 * i) (UInt8.ofNat (l[i].1.toNat / 256))).set (3 + 2 * i) (UInt8.ofNat l[i].1.toNat) = headP flag l size (i + 1) := by
  obtain ⟨n, hn⟩ : ∃ n, size - 2 - 2 * i = n + 2 := ⟨size - 4 - 2 * i, by omega⟩
  have hn2 : size - 2 - 2 * (i + 1) = n := by omega
  have hl : ([flag, UInt8.ofNat l.length] ++ headN (l.take i)).length = 2 + 2 * i := by simp [headN_len]; omega
  unfold headP
  rw [hn, hn2, headN_snoc hi, List.set_append_right _ _ (by rw [hl]; omega), hl, List.set_append_right _ _ (by rw [hl]; omega), hl, show 2 + 2 * i - (2 + 2 * i) = 0 by omega, show 3 + 2 * i - (2 + 2 * i) = 1 by omega]
  simp [List.replicate_succ, by2]
theorem headP_done (flag : UInt8) {l : List JW} {size : Nat} (hl : l.length ≤ 8) (hs : 22 ≤ size) : (headP flag l size l.length).take 18 ++ sumB l ++ (headP flag l size l.length).drop 22 = headB flag l size := by
  unfold headP headB
  rw [List.take_length]
  have e1 : ([flag, UInt8.ofNat l.length] ++ headN l).length = 2 + 2 * l.length := by simp [headN_len]; omega
  rw [List.take_append, List.take_of_length_le (by rw [e1]; omega), List.drop_append, List.drop_of_length_le (by rw [e1]; omega), e1, List.take_replicate, List.drop_replicate, List.nil_append]
  rw [show min (18 - (2 + 2 * l.length)) (size - 2 - 2 * l.length) = 16 - 2 * l.length by omega, show size - 2 - 2 * l.length - (22 - (2 + 2 * l.length)) = size - 22 by omega]
set_option maxRecDepth 100000 in
set_option maxHeartbeats 1600000 in
theorem jhead_any {j L : Nat} {d : DK} {bad : Int} {w : World} {H : Nat → Prop} (h : JAt j L d bad w H) {ao : Option Addr} {ws : List (Int × SV)} {l : List JW} (hw : JWrs w H ao ws l) (cap : Nat) (hl : l.length ≤ 8) (hsec : ∀ w ∈ l, 0 ≤ w.1 ∧ w.1 < 65536) (flag : UInt8) :
    Calls Tryz.prog 45 #[.pointer (some ⟨j, 0, none⟩), .int .u8 (flag.toNat : Int), .slice ao l.length cap] w (CloneP (headB flag l d.size) w) := by
  have HA := Lib.hid h
  have HW := Lib.hid hw
  have HSec := Lib.hid hsec
  have hlen := hw.len
  have hgd := h.good
  have hs0 := hgd.s0
  have hs1 := hgd.s1
  obtain ⟨c0, -, -, hj⟩ := h.cells
  obtain ⟨m, hm⟩ : ∃ m : Nat, d.size = m := ⟨_, rfl⟩
  rw [hm] at hs0 hs1 ⊢
  have hmk := fun W => run_make_row' (P := Tryz.prog) 28 5 (.int .u8 0) 1 Tryz.underlying28 infoB rfl .i64 .i64 m (by omega) (by omega) W
  have hmade := fun W => bytes_made W m (by unfold maxLen; omega)
  obtain ⟨Z, hZ⟩ : ∃ Z, madeCells #[.int .u8 0] m = Z := ⟨_, rfl⟩
  rw [hZ] at hmk hmade
  have Hmade := Lib.hid hmade
  have Hm := Lib.hid hm
  have hflag := flag.toNat_lt
  have HL := Lib.hid hlen
  clear hZ hmade hgd h hw hm hlen hsec
  go_enter Tryz.func45, Tryz.ntmps45
  go_wp2_with fail
  obtain ⟨G, hG, -, -⟩ := HA.out.disk
  refine (size_any hG).mono ?_
  rintro e w' ⟨rfl, rfl⟩
  rw [Hm.out]
  go_upto_region 2 with (fail)
  refine wp_at (φ := fun W => RowAt 5 ByteR W (.slice (some ⟨w.heap.size, 0, none⟩) m m) (List.replicate m 0) ∧ Fr noBlock w W) ⟨Hmade.out w, (Fr.refl _ _).alloc _⟩ ?_
  rintro w1 ⟨r0, f1⟩
  have hrl : (List.replicate m (0 : UInt8)).length = m := by simp
  obtain ⟨y0, z0⟩ := byte_at r0 (i := 0) (by rw [hrl]; omega)
  have r1 := byte_set r0 (i := 0) (by rw [hrl]; omega) flag
  have hrl1 : ((List.replicate m (0 : UInt8)).set 0 flag).length = m := by simp
  obtain ⟨y1, z1⟩ := byte_at r0 (i := 1) (by rw [hrl]; omega)
  have r2 := byte_set r1 (i := 1) (by rw [hrl1]; omega) (UInt8.ofNat l.length)
  rw [headP_zero flag l (by omega)] at r2
  have f2 := (f1.setCell (p := ⟨w.heap.size, 0, none⟩) (.inr (Nat.le_refl _)) (byteV flag)).setCell (p := ⟨w.heap.size, 1, none⟩) (.inr (Nat.le_refl _)) (byteV (UInt8.ofNat l.length))
  have hlv : (byteV (UInt8.ofNat l.length)) = .int .u8 (l.length : Int) := by unfold byteV; rw [u8_of]; congr 1; omega
  rw [hlv] at r2 f2
  have HR2 := Lib.hid (And.intro r2 f2)
  unfold byteV at y0 y1
  simp only [List.getElem_replicate] at y0 y1
  have hl8 : (l.length : Int) % 256 = (l.length : Int) := by omega
  clear r0 r1 r2 f1 f2 hlv hrl hrl1 hG
  go_wp2_with fail
  go_loopw [26] (fun s26 wr => ∃ i : Nat, i ≤ l.length ∧ s26 = .int .i64 i ∧ RowAt 5 ByteR wr (.slice (some ⟨w.heap.size, 0, none⟩) m m) (headP flag l m i) ∧ Fr noBlock w wr) (fun s26 _ => l.length - (intOf s26).toNat)
  case atStart => exact ⟨0, Nat.zero_le _, rfl, HR2.out.1, HR2.out.2⟩
  case round =>
    obtain ⟨i, hi, rfl, hR, hf⟩ := hrel
    have HR := Lib.hid hR
    have Hf := Lib.hid hf
    have hsz := hf.size
    clear hmk HR2 y0 y1 z0 z1
    by_cases hlt : i < l.length
    · have q1 : (i : Int) < (l.length : Int) := by omega
      obtain ⟨b, off, s, rfl, hb, x0, x1, -, -, -⟩ := (HW.out.fr hf).at' hlt
      have hpl := headP_len flag (l := l) (size := m) (i := i) hi (by omega)
      obtain ⟨ya, za⟩ := byte_at hR (i := 2 + 2 * i) (by omega)
      obtain ⟨yb, zb⟩ := byte_at hR (i := 3 + 2 * i) (by omega)
      have hst := headP_step flag (size := m) hlt (by omega)
      have hsec := HSec.out l[i] (List.getElem_mem hlt)
      generalize (headP flag l m i)[2 + 2 * i]'(by omega) = ca at *
      generalize (headP flag l m i)[3 + 2 * i]'(by omega) = cb at *
      generalize l[i] = q at *
      obtain ⟨qn, qb⟩ := q
      obtain ⟨hq0, hq1⟩ := hsec
      simp only at x0 x1 hst hq0 hq1
      have Hst := Lib.hid hst
      have hlw : w.heap.size < wr.heap.size := hR.lt _ rfl
      have wp1 : IntKind.i64.wrap (2 * (i : Int)) = 2 * (i : Int) := IntWalk.i64_in _ (by omega)
      have wp2 : IntKind.i64.wrap (2 + 2 * (i : Int)) = 2 + 2 * (i : Int) := IntWalk.i64_in _ (by omega)
      have wp3 : IntKind.i64.wrap (3 + 2 * (i : Int)) = 3 + 2 * (i : Int) := IntWalk.i64_in _ (by omega)
      have hv1 : byteV (UInt8.ofNat (qn.toNat / 256)) = .int .u8 (qn / 256) := by unfold byteV; rw [u8_of]; congr 1; omega
      have hv2 : byteV (UInt8.ofNat qn.toNat) = .int .u8 (qn % 256) := by unfold byteV; rw [u8_of]; congr 1; omega
      have hs1' := byte_set hR (i := 2 + 2 * i) (by omega) (UInt8.ofNat (qn.toNat / 256))
      have hs2' := byte_set hs1' (i := 3 + 2 * i) (by rw [List.length_set]; omega) (UInt8.ofNat qn.toNat)
      rw [hv1, hv2, hst] at hs2'
      have HS2 := Lib.hid hs2'
      have HF2 := Lib.hid ((hf.setCell (p := ⟨w.heap.size, 2 + 2 * i, none⟩) (.inr (Nat.le_refl _)) (.int .u8 (qn / 256))).setCell (p := ⟨w.heap.size, 3 + 2 * i, none⟩) (.inr (Nat.le_refl _)) (.int .u8 (qn % 256)))
      have hlt' : i + 1 ≤ l.length := by omega
      clear hst hR hf hlt hv1 hv2 hs1' hs2'
      go_wp2_with fail
      go_region
      go_wp2_with fail
      go_roundw
      case rel => exact ⟨i + 1, hlt', by go_num, HS2.out.fr0 (((Fr.refl noBlock _).alloc _).drew), (HF2.out.alloc _).drew⟩
      case measure => simp [intOf]; omega
    · have q1 : (l.length : Int) ≤ (i : Int) := by omega
      have e : i = l.length := by omega
      subst e
      have hpl := headP_len flag (l := l) (size := m) (i := l.length) (Nat.le_refl _) (by omega)
      have hdn := headP_done flag (l := l) (size := m) hl (by omega)
      have Hdn := Lib.hid hdn
      have Hpl := Lib.hid hpl
      have hm18 : (18 : Int) ≤ (m : Int) := by omega
      have hne : ¬ m = 18 := by omega
      clear hR hf hlt hpl hdn
      go_wp2_with fail
      go_region_held3 (fun W => True) (trivial)
        (first
          | (go_at_call 72; (with_reducible refine (jsum_any (HW.out.fr (Hf.out.drew)) cap (by omega)).mono ?_); rintro e w5 ⟨s5, rfl, h5a, h5b, h5c, h5d⟩; obtain ⟨sa, sn, sc⟩ := s5; simp only at h5a; rw [sumB_len] at h5a; subst h5a)
          | (refine step_cp (by rfl) _ _ (by rfl) (headP flag l m l.length) (sumB l) (HR.out.fr0 (((Fr.refl noBlock _).drew).trans' h5c)) 18 4 (by rfl) (by rfl) (RowAt.rd h5b) rfl (by rw [sumB_len]; omega) (fun _ => rfl) (by rw [Hpl.out]; omega) ?_; intro w6 r6 f6))
      have HX := Lib.hid (And.intro r6 ((Hf.out.drew).trans' h5c |>.trans f6 (fun k hk => by subst hk; exact .inr (Nat.le_refl _))))
      clear r6 h5b h5c h5d f6
      go_wp2_with fail
      go_ret
      have h1 := HX.out.1
      rw [show (sumB l).take 4 = sumB l by rfl, Hdn.out] at h1
      exact ⟨⟨some ⟨w.heap.size, 0, none⟩, m, m⟩, rfl, (headB_len flag hl (show 22 ≤ m by omega)).symm, h1, HX.out.2, fun k hk => by cases hk; exact Nat.le_refl _⟩
end Go.Proofs.YthabllnhlhkejaaGreatDoor
namespace Go.Proofs.YthabllnhlhkejaaGreatDoor
open Go.RowKit

section
variable {d : DK} {l : List JW}
theorem cmayL_ok : ∀ (l pre : List JW), mayL d pre l = 0 → ∀ w ∈ l, w.2.length = d.size ∧ isJ d w.1 = true
  | [], _, _, w, hw => by cases hw
  | v :: l, pre, h, w, hw => by
    unfold mayL at h
    split at h
    · cases h
    · split at h
      · cases h
      · split at h
        · cases h
        · rename_i a b c
          rcases List.mem_cons.1 hw with rfl | hw
          · exact ⟨by omega, by simpa using b⟩
          · exact cmayL_ok l _ h w hw
theorem cmayE_ok (h : mayE d l = 0) : l.length ≤ 8 ∧ ∀ w ∈ l, w.2.length = d.size ∧ isJ d w.1 = true := by
  unfold mayE at h
  split at h
  · cases h
  · exact ⟨by omega, cmayL_ok l [] h⟩
end
def JCommitP (j L : Nat) (d : DK) (bad : Int) (l : List JW) (H : Nat → Prop) (w : World) (e : Ending) (w' : World) : Prop := ∃ H', e = .returned (.int .i64 (commitR d bad l).2.2) ∧ JAt j L (commitR d bad l).1 (commitR d bad l).2.1 w' H' ∧ Step H H' w w'
theorem noteA_take {l : List JW} {i : Nat} (hi : i < l.length) : noteA 1 (l.take (i + 1)) = noteA 1 (l.take i) ++ [some (1 + (i : Int), l[i].2)] := by
  rw [List.take_succ_eq_append_getElem hi, noteA_snoc, List.length_take, Nat.min_eq_left (by omega)]
  rw [show ((1 + i : Nat) : Int) = 1 + (i : Int) by omega]
set_option maxRecDepth 100000 in
set_option maxHeartbeats 3200000 in
theorem jcommit_any {j L : Nat} {d : DK} {bad : Int} {w : World} {H : Nat → Prop} (h : JAt j L d bad w H) {ao : Option Addr} {ws : List (Int × SV)} {l : List JW} (hw : JWrs w H ao ws l) (cap : Nat) (hcap : l.length ≤ cap) (hll : l.length ≤ 9223372036854775807) (hmax : ∀ w ∈ l, w.2.length ≤ 9223372036854775807) :
    Calls Tryz.prog 22 #[.pointer (some ⟨j, 0, none⟩), .slice ao l.length cap] w (JCommitP j L d bad l H w) := by
  have HA := Lib.hid h
  have HW := Lib.hid hw
  have HMax := Lib.hid hmax
  have Hmay := Lib.hid (jmay_any h hw cap hcap hll hmax)
  obtain ⟨c0, c1, -, hj⟩ := h.cells
  have hs0 := h.good.s0
  have hs1 := h.good.s1
  have hn1 := h.good.n1
  have HLt := Lib.hid (JAt.ok.lt h)
  clear h hw hmax
  by_cases hb : bad = 0
  · subst hb
    by_cases hm : mayE d l = 0
    · obtain ⟨hl8, hev⟩ := cmayE_ok hm
      have hsec : ∀ w ∈ l, 0 ≤ w.1 ∧ w.1 < 65536 := by
        intro v hv
        have := (hev v hv).2
        unfold isJ secs at this
        simp at this
        omega
      have HSec := Lib.hid hsec
      have HM := Lib.hid hm
      by_cases hl0 : l = []
      · have hC : commitR d 0 l = (d, 0, 0) := by unfold commitR; rw [if_neg (by simp), if_neg (by simpa using hm), if_pos hl0]
        have HC := Lib.hid hC
        subst hl0
        clear hC hm hev hsec
        go_enter Tryz.func22, Tryz.ntmps22
        go_wp2_with fail
        refine Hmay.out.mono ?_
        rintro e w1 ⟨rfl, f1⟩
        have HF1 := Lib.hid f1
        rw [HM.out]
        clear f1
        go_wp2_with fail
        go_ret
        exact ⟨H, by rw [HC.out]; rfl, by rw [HC.out]; exact JAt.ok.fr0 HA.out HF1.out, Step.same HF1.out⟩
      · have hl1 : 1 ≤ l.length := by cases l <;> simp_all
        have hC : commitR d 0 l = ((jrun (d, 0) (commitA l d.size)).1, (jrun (d, 0) (commitA l d.size)).2, (jrun (d, 0) (commitA l d.size)).2) := by unfold commitR; rw [if_neg (by simp), if_neg (by simpa using hm), if_neg hl0]
        have HC := Lib.hid hC
        have hl1I : ((l.length : Int) == 0) = false := by simp; omega
        clear hC hm hev hsec hl0
        go_enter Tryz.func22, Tryz.ntmps22
        go_wp2_with fail
        refine Hmay.out.mono ?_
        rintro e w1 ⟨rfl, f1⟩
        have HF1 := Lib.hid f1
        have x0 := (f1.cell (p := ⟨j, 0, none⟩) hj (fun x => x)).trans c0
        have X0 := Lib.hid x0
        have hj1 := lt_of_cell x0
        have hz1 := f1.size
        rw [HM.out]
        clear f1 c0 c1
        have HA1 := Lib.hid (JAt.ok.fr0 HA.out HF1.out)
        have HW1 := Lib.hid (HW.out.fr HF1.out)
        have HLt1 := Lib.hid (show ∀ k, H k → k < w1.heap.size from fun k hk => Nat.lt_of_lt_of_le (HLt.out k hk) HF1.out.size)
        go_wp2_with fail
        go_loopw [6, 32] (fun s6 s32 wr => ∃ (i : Nat) (po : Option Addr) (pc : Nat) (ss : List Stp), i ≤ l.length ∧ s32 = .int .i64 i ∧ s6 = .slice po i pc ∧ StL w1 wr H j L po i pc ss (noteA 1 (l.take i))) (fun _ s32 _ => l.length - (intOf s32).toNat)
        case atStart => exact ⟨0, none, 0, [], Nat.zero_le _, rfl, rfl, StL.nil (Fr.refl _ _)⟩
        case round =>
          obtain ⟨i, po, pc, ss, hi, rfl, rfl, hS⟩ := hrel
          have HS := Lib.hid hS
          have Hsl := Lib.hid hS.len
          have hsz := hS.fr.size
          clear x0
          have x0 := (hS.fr.cell (p := ⟨j, 0, none⟩) hj1 (fun x => x)).trans X0.out
          by_cases hlt : i < l.length
          · have q1 : (i : Int) < (l.length : Int) := by omega
            obtain ⟨b, off, s, rfl, hb, y0, y1, hws, hsn, -⟩ := (HW1.out.fr hS.fr).at' hlt
            have hst := noteA_take hlt
            have hmx := HMax.out l[i] (List.getElem_mem hlt)
            have hbF : Bes ByteR s.ao l[i].2 wr (rowF H po i pc) := (HW1.out.each i _ l[i] hws (List.getElem?_eq_getElem hlt)).2.2.far hS.fr hS.F_far
            generalize l[i] = q at *
            obtain ⟨qn, qb⟩ := q
            obtain ⟨sa, sn, sc⟩ := s
            simp only at hsn y0 y1 hmx hst
            subst hsn
            have Hst := Lib.hid hst
            have HbF := Lib.hid hbF
            have hi' : i + 1 ≤ l.length := by omega
            clear hS hst hbF hws hlt x0
            go_wp2_with fail
            refine (jwrite_any j _ sa qb.length sc _).mono ?_
            rintro e w2 ⟨p3, p4, p5, rfl, k3, k4, k5, g3, g4, g5, f2⟩
            have fA := ((Fr.refl noBlock wr).alloc (.cells #[.int .i64 qn, .slice sa qb.length sc] 79)).trans' f2
            have hWr : (Stp.wr p3 p4 p5 (1 + (i : Int)) ⟨sa, qb.length, sc⟩ qb).Ok w2 (rowF H po i pc) j :=
              WCell.mk' (w := wr) k3 k4 k5 (by simp at g3; omega) (by simp at g4; omega) (by simp at g5; omega) (HS.out.F_lt HLt1.out) rfl (HbF.out.fr fA) hmx
            have HB := Lib.hid (And.intro hWr fA)
            clear k3 k4 k5 g3 g4 g5 f2 hWr fA
            go_wp2_with (at_builtin; apply stop_here)
            refine ⟨?_, trivial⟩
            refine wpList_app rfl _ _ rfl (el_steps L) (v := .slice po i pc) ss [Stp.wr p3 p4 p5 (1 + (i : Int)) ⟨sa, qb.length, sc⟩ qb] (ss ++ [Stp.wr p3 p4 p5 (1 + (i : Int)) ⟨sa, qb.length, sc⟩ qb]) rfl w1.heap.size i (i + 1) (by rw [List.length_append, ← Hsl.out]; rfl) rfl (HS.out.own' (HB.out.2.alloc _)) rfl (RowRd.one (heap_new w2 _) _ rfl) rfl (by unfold maxLen; omega) (by omega) (by have := HB.out.2.size; simp; omega) ?_
            intro ao3 cap3 w3 o3 g3 a3
            go_frame
            have hM := HS.out.more (HB.out.2.alloc (.cells #[.func (.func 69) #[] #[.pointer (some ⟨p3, 0, none⟩), .pointer (some ⟨p4, 0, none⟩), .pointer (some ⟨p5, 0, none⟩)]] 103)) (ts := [Stp.wr p3 p4 p5 (1 + (i : Int)) ⟨sa, qb.length, sc⟩ qb]) (bs := [some (1 + (i : Int), qb)]) (fun s hs => by
              simp at hs
              subst hs
              exact HB.out.1.fr ((Fr.refl noBlock w2).alloc _)) rfl o3 rfl g3 a3 HLt1.out
            have HM' := Lib.hid hM
            clear o3 g3 a3 hM
            go_wp2_with fail
            go_roundw
            case rel => exact ⟨i + 1, ao3, cap3, _, hi', by go_num, rfl, by rw [Hst.out]; exact HM'.out⟩
            case measure => simp [intOf]; omega
          · have q1 : (l.length : Int) ≤ (i : Int) := by omega
            have e : i = l.length := by omega
            subst e
            rw [List.take_length] at HS
            have hd64 : ∀ f, (headB f l d.size).length = d.size := fun f => headB_len f hl8 (by omega)
            obtain ⟨h0, hh0⟩ : ∃ h0, headB 0 l d.size = h0 := ⟨_, rfl⟩
            obtain ⟨h1, hh1⟩ : ∃ h1, headB 1 l d.size = h1 := ⟨_, rfl⟩
            have hq0 := hd64 0
            have hq1 := hd64 1
            rw [hh0] at hq0
            rw [hh1] at hq1
            have Hhl0 := Lib.hid (show h0.length ≤ 9223372036854775807 by omega)
            have Hhl1 := Lib.hid (show h1.length ≤ 9223372036854775807 by omega)
            have Hhd0 := Lib.hid (fun (W : World) (f : Fr noBlock w1 W) => show Calls Tryz.prog 45 #[.pointer (some ⟨j, 0, none⟩), .int .u8 0, .slice ao l.length cap] W (CloneP h0 W) from hh0 ▸ jhead_any (JAt.ok.fr0 HA1.out f) (HW1.out.fr f) cap hl8 HSec.out 0)
            have Hhd1 := Lib.hid (fun (W : World) (f : Fr noBlock w1 W) => show Calls Tryz.prog 45 #[.pointer (some ⟨j, 0, none⟩), .int .u8 1, .slice ao l.length cap] W (CloneP h1 W) from hh1 ▸ jhead_any (JAt.ok.fr0 HA1.out f) (HW1.out.fr f) cap hl8 HSec.out 1)
            have Hh := Lib.hid (And.intro hh0 hh1)
            have FLt := Lib.hid (HS.out.F_lt HLt1.out)
            clear hS hlt hd64 hh0 hh1 hq0 hq1 hi
            go_wp2_with fail
            refine (Hhd0.out wr HS.out.fr).mono ?_
            rintro e waA ⟨⟨aA, nA, cA⟩, rfl, hlA, hrA, hfA, hnA⟩
            simp only at hlA
            subst hlA
            unfold SV.val
            dsimp only
            have RA := Lib.hid (And.intro hrA (And.intro hfA hnA))
            clear hrA hfA hnA
            go_wp2_with fail
            refine (jwrite_any j 0 aA h0.length cA waA).mono ?_
            rintro e wbA ⟨p3A, p4A, p5A, rfl, k3A, k4A, k5A, g3A, g4A, g5A, fA⟩
            have KA := Lib.hid (And.intro k3A (And.intro k4A (And.intro k5A (And.intro g3A (And.intro g4A (And.intro g5A fA))))))
            clear k3A k4A k5A g3A g4A g5A fA
            go_wp2_with fail
            refine (Hhd1.out wbA ((HS.out.fr.trans' RA.out.2.1).trans' KA.out.2.2.2.2.2.2)).mono ?_
            rintro e waB ⟨⟨aB, nB, cB⟩, rfl, hlB, hrB, hfB, hnB⟩
            simp only at hlB
            subst hlB
            unfold SV.val
            dsimp only
            have RB := Lib.hid (And.intro hrB (And.intro hfB hnB))
            clear hrB hfB hnB
            go_wp2_with fail
            refine (jwrite_any j 0 aB h1.length cB waB).mono ?_
            rintro e wbB ⟨p3B, p4B, p5B, rfl, k3B, k4B, k5B, g3B, g4B, g5B, fB⟩
            have KB := Lib.hid (And.intro k3B (And.intro k4B (And.intro k5B (And.intro g3B (And.intro g4B (And.intro g5B fB))))))
            clear k3B k4B k5B g3B g4B g5B fB
            have OA := Lib.hid (show (Stp.wr p3A p4A p5A 0 ⟨aA, h0.length, cA⟩ h0).Ok wbA (rowF H po l.length pc) j from
              WCell.mk' (w := waA) KA.out.1 KA.out.2.1 KA.out.2.2.1 KA.out.2.2.2.1 KA.out.2.2.2.2.1 KA.out.2.2.2.2.2.1 (fun q hq => Nat.lt_of_lt_of_le (FLt.out q hq) RA.out.2.1.size) rfl ((Bes.new (w0 := wr) RA.out.1 RA.out.2.2 FLt.out).fr KA.out.2.2.2.2.2.2) Hhl0.out)
            have FA := Lib.hid (RA.out.2.1.trans' KA.out.2.2.2.2.2.2)
            have FB := Lib.hid (RB.out.2.1.trans' KB.out.2.2.2.2.2.2)
            have OB := Lib.hid (show (Stp.wr p3B p4B p5B 0 ⟨aB, h1.length, cB⟩ h1).Ok wbB (rowF H po l.length pc) j from
              WCell.mk' (w := waB) KB.out.1 KB.out.2.1 KB.out.2.2.1 KB.out.2.2.2.1 KB.out.2.2.2.2.1 KB.out.2.2.2.2.2.1 (fun q hq => Nat.lt_of_lt_of_le ((fun q hq => Nat.lt_of_lt_of_le (FLt.out q hq) FA.out.size) q hq) RB.out.2.1.size) rfl ((Bes.new (w0 := wbA) RB.out.1 RB.out.2.2 (fun q hq => Nat.lt_of_lt_of_le (FLt.out q hq) FA.out.size)).fr KB.out.2.2.2.2.2.2) Hhl1.out)
            have FAB := Lib.hid (FA.out.trans' FB.out)
            have hzAB := FAB.out.size
            go_wp2_with (at_builtin; apply stop_here)
            refine ⟨?_, trivial⟩
            refine wpList_app rfl _ _ rfl (el_steps L) (v := .slice po l.length pc) ss [Stp.wr p3A p4A p5A 0 ⟨aA, h0.length, cA⟩ h0, Stp.fl, Stp.wr p3B p4B p5B 0 ⟨aB, h1.length, cB⟩ h1, Stp.fl] (ss ++ [Stp.wr p3A p4A p5A 0 ⟨aA, h0.length, cA⟩ h0, Stp.fl, Stp.wr p3B p4B p5B 0 ⟨aB, h1.length, cB⟩ h1, Stp.fl]) rfl w1.heap.size l.length (l.length + 4) (by rw [List.length_append, ← Hsl.out]; rfl) rfl (HS.out.own' (FAB.out.alloc _)) rfl (RowRd.of_flat (heap_new wbB _) rfl (by unfold maxLen; simp)) rfl (by unfold maxLen; omega) (by omega) (by simp; omega) ?_
            intro po2 pc2 we o2 g2 a2
            go_frame
            have hM2 := HS.out.more (FAB.out.alloc (.cells #[.func (.func 69) #[] #[.pointer (some ⟨p3A, 0, none⟩), .pointer (some ⟨p4A, 0, none⟩), .pointer (some ⟨p5A, 0, none⟩)], .func (.func 44) #[.pointer (some ⟨L, 0, none⟩)] #[], .func (.func 69) #[] #[.pointer (some ⟨p3B, 0, none⟩), .pointer (some ⟨p4B, 0, none⟩), .pointer (some ⟨p5B, 0, none⟩)], .func (.func 44) #[.pointer (some ⟨L, 0, none⟩)] #[]] 103)) (ts := [Stp.wr p3A p4A p5A 0 ⟨aA, h0.length, cA⟩ h0, Stp.fl, Stp.wr p3B p4B p5B 0 ⟨aB, h1.length, cB⟩ h1, Stp.fl]) (bs := [some (0, h0), none, some (0, h1), none]) (fun s hs => by
              simp at hs
              rcases hs with rfl | rfl | rfl | rfl
              · exact (OA.out.fr FB.out).fr ((Fr.refl noBlock wbB).alloc _)
              · trivial
              · exact OB.out.fr ((Fr.refl noBlock wbB).alloc _)
              · trivial) rfl o2 rfl g2 a2 HLt1.out
            have M2 := Lib.hid hM2
            have FLt2 := Lib.hid (hM2.F_lt HLt1.out)
            have x2 := (hM2.fr.cell (p := ⟨j, 0, none⟩) hj1 (fun x => x)).trans X0.out
            have X2 := Lib.hid x2
            have hz2 := hM2.fr.size
            clear hM2 o2 g2 a2 x0
            go_wp2_with fail
            refine (jhomes_any' X2.out FLt2.out (HW1.out.far M2.out.fr M2.out.F_far) cap hl8 HSec.out HMax.out).mono ?_
            rintro e wf ⟨po3, n3, pc3, ss3, rfl, hS3⟩
            have S3 := Lib.hid hS3
            have hn3 : n3 = l.length + 1 := by
              have := congrArg List.length hS3.acts
              rw [hS3.len]
              simpa [homeA] using this
            have HN3 := Lib.hid hn3
            have hn3b : n3 ≤ 9 := by omega
            have x3 := (hS3.fr.cell (p := ⟨j, 0, none⟩) (lt_of_cell x2) (fun x => x)).trans x2
            have hz3 := hS3.fr.size
            clear hS3 hn3 x2
            go_wp2_with (at_builtin; apply stop_here)
            refine ⟨?_, trivial⟩
            refine wpList_app rfl _ _ rfl (el_steps L) (v := .slice po2 (l.length + 4) pc2) (ss ++ [Stp.wr p3A p4A p5A 0 ⟨aA, h0.length, cA⟩ h0, Stp.fl, Stp.wr p3B p4B p5B 0 ⟨aB, h1.length, cB⟩ h1, Stp.fl]) ss3 ((ss ++ [Stp.wr p3A p4A p5A 0 ⟨aA, h0.length, cA⟩ h0, Stp.fl, Stp.wr p3B p4B p5B 0 ⟨aB, h1.length, cB⟩ h1, Stp.fl]) ++ ss3) rfl w1.heap.size (l.length + 4) (l.length + 4 + n3) (by rw [List.length_append, ← M2.out.len, ← S3.out.len]) rfl (M2.out.own' S3.out.fr) rfl (RowAt.rd (RowAt.of_own S3.out.own S3.out.len)) S3.out.len (by unfold maxLen; omega) (by omega) (by omega) ?_
            intro po4 pc4 wg o4 g4 a4
            go_frame
            have hM4 := M2.out.more S3.out.fr (ts := ss3) (bs := homeA l ++ [none]) (fun s hs => S3.out.ok' s hs) S3.out.acts o4 (by rw [S3.out.len]) g4 a4 HLt1.out
            have M4 := Lib.hid hM4
            have FLt4 := Lib.hid (hM4.F_lt HLt1.out)
            have x4 := (hM4.fr.cell (p := ⟨j, 0, none⟩) hj1 (fun x => x)).trans X0.out
            have hz4 := hM4.fr.size
            clear hM4 o4 g4 a4 x3
            go_wp2_with fail
            refine (Hhd0.out wg M4.out.fr).mono ?_
            rintro e waC ⟨⟨aC, nC, cC⟩, rfl, hlC, hrC, hfC, hnC⟩
            simp only at hlC
            subst hlC
            unfold SV.val
            dsimp only
            have RC := Lib.hid (And.intro hrC (And.intro hfC hnC))
            clear hrC hfC hnC
            go_wp2_with fail
            refine (jwrite_any j 0 aC h0.length cC waC).mono ?_
            rintro e wbC ⟨p3C, p4C, p5C, rfl, k3C, k4C, k5C, g3C, g4C, g5C, fC⟩
            have KC := Lib.hid (And.intro k3C (And.intro k4C (And.intro k5C (And.intro g3C (And.intro g4C (And.intro g5C fC))))))
            clear k3C k4C k5C g3C g4C g5C fC
            have OC := Lib.hid (show (Stp.wr p3C p4C p5C 0 ⟨aC, h0.length, cC⟩ h0).Ok wbC (rowF H po4 (l.length + 4 + n3) pc4) j from
              WCell.mk' (w := waC) KC.out.1 KC.out.2.1 KC.out.2.2.1 KC.out.2.2.2.1 KC.out.2.2.2.2.1 KC.out.2.2.2.2.2.1 (fun q hq => Nat.lt_of_lt_of_le (FLt4.out q hq) RC.out.2.1.size) rfl ((Bes.new (w0 := wg) RC.out.1 RC.out.2.2 FLt4.out).fr KC.out.2.2.2.2.2.2) Hhl0.out)
            have FC := Lib.hid (RC.out.2.1.trans' KC.out.2.2.2.2.2.2)
            have hzC := FC.out.size
            go_wp2_with (at_builtin; apply stop_here)
            refine ⟨?_, trivial⟩
            refine wpList_app rfl _ _ rfl (el_steps L) (v := .slice po4 (l.length + 4 + n3) pc4) ((ss ++ [Stp.wr p3A p4A p5A 0 ⟨aA, h0.length, cA⟩ h0, Stp.fl, Stp.wr p3B p4B p5B 0 ⟨aB, h1.length, cB⟩ h1, Stp.fl]) ++ ss3) [Stp.wr p3C p4C p5C 0 ⟨aC, h0.length, cC⟩ h0, Stp.fl] (((ss ++ [Stp.wr p3A p4A p5A 0 ⟨aA, h0.length, cA⟩ h0, Stp.fl, Stp.wr p3B p4B p5B 0 ⟨aB, h1.length, cB⟩ h1, Stp.fl]) ++ ss3) ++ [Stp.wr p3C p4C p5C 0 ⟨aC, h0.length, cC⟩ h0, Stp.fl]) rfl w1.heap.size (l.length + 4 + n3) (l.length + 4 + n3 + 2) (by rw [List.length_append, ← M4.out.len]; rfl) rfl (M4.out.own' (FC.out.alloc _)) rfl (RowRd.of_flat (heap_new wbC _) rfl (by unfold maxLen; simp)) rfl (by unfold maxLen; omega) (by omega) (by simp; omega) ?_
            intro po6 pc6 w7 o6 g6 a6
            go_frame
            have hM := M4.out.more (FC.out.alloc (.cells #[.func (.func 69) #[] #[.pointer (some ⟨p3C, 0, none⟩), .pointer (some ⟨p4C, 0, none⟩), .pointer (some ⟨p5C, 0, none⟩)], .func (.func 44) #[.pointer (some ⟨L, 0, none⟩)] #[]] 103)) (ts := [Stp.wr p3C p4C p5C 0 ⟨aC, h0.length, cC⟩ h0, Stp.fl]) (bs := [some (0, h0), none]) (fun s hs => by
              simp at hs
              rcases hs with rfl | rfl
              · exact OC.out.fr ((Fr.refl noBlock wbC).alloc _)
              · trivial) rfl o6 rfl g6 a6 HLt1.out
            have hA7 := JAt.ok.fr0 HA1.out hM.fr
            have hT7 := (Step.same (F := H) HF1.out).trans (Step.same hM.fr)
            have hl7 := hM.len
            have hbs := hM.bes HLt1.out
            have hcA : commitA l d.size = noteA 1 l ++ [some (0, h0), none, some (0, h1), none] ++ (homeA l ++ [none]) ++ [some (0, h0), none] := by unfold commitA; rw [Hh.out.1, Hh.out.2]
            have hrun : jrun (d, 0) ((((ss ++ [Stp.wr p3A p4A p5A 0 ⟨aA, h0.length, cA⟩ h0, Stp.fl, Stp.wr p3B p4B p5B 0 ⟨aB, h1.length, cB⟩ h1, Stp.fl]) ++ ss3) ++ [Stp.wr p3C p4C p5C 0 ⟨aC, h0.length, cC⟩ h0, Stp.fl]).map Stp.act) = jrun (d, 0) (commitA l d.size) := by rw [hM.acts, hcA]
            have hst := steps_any' hA7 hbs hM.ok' pc6 (by rw [← hl7]; omega) hrun
            rw [← hl7] at hst
            have Hst := Lib.hid hst
            have HT7 := Lib.hid hT7
            clear hM hA7 hT7 hl7 hbs hrun hst o6 g6 a6 hcA x4
            go_wp2_with fail
            refine Hst.out.mono ?_
            rintro e w8 ⟨H8, rfl, hA8, hT8⟩
            have HA8 := Lib.hid (And.intro hA8 (HT7.out.trans hT8))
            clear hA8 hT8
            go_wp2_with fail
            go_ret
            exact ⟨H8, by rw [HC.out]; rfl, by rw [HC.out]; exact HA8.out.1, HA8.out.2⟩
    · have hC : commitR d 0 l = (d, 0, mayE d l) := by unfold commitR; rw [if_neg (by simp), if_pos hm]
      have HC := Lib.hid hC
      have hmb : (mayE d l != 0) = true := by simpa using hm
      obtain ⟨x, hx⟩ : ∃ x, mayE d l = x := ⟨_, rfl⟩
      rw [hx] at hmb Hmay HC
      clear hC hm hx
      go_enter Tryz.func22, Tryz.ntmps22
      go_wp2_with fail
      refine Hmay.out.mono ?_
      rintro e w1 ⟨rfl, f1⟩
      have HF1 := Lib.hid f1
      clear f1
      go_wp2_with fail
      go_ret
      exact ⟨H, by rw [HC.out]; rfl, by rw [HC.out]; exact JAt.ok.fr0 HA.out HF1.out, Step.same HF1.out⟩
  · have hC : commitR d bad l = (d, bad, bad) := by unfold commitR; rw [if_pos hb]
    have HC := Lib.hid hC
    have hbb : (bad != 0) = true := by simpa using hb
    clear hC hb
    go_enter Tryz.func22, Tryz.ntmps22
    go_wp2_with fail
    go_ret
    exact ⟨H, by rw [HC.out]; rfl, by rw [HC.out]; exact HA.out, Step.refl _ _⟩
end Go.Proofs.YthabllnhlhkejaaGreatDoor
