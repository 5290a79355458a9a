/-
  THE WALK of the document's head.
-/
import Derived.Test.YtmcckppmciflmaaRjAt
import Derived.Test.YtmcckppmciflmaaOwnB
import Derived.Test.YtmcckppmciflmaaJnHead
namespace Go.Proofs.Ytmcckppmciflmaa
open Go.RowKit

theorem bst_even' {r : BitVec 32} (h : (r.toNat : Int) % 2 = 0) : ((r.toNat : Int) / 2) = ((bst r).toNat : Int) := by
  have hb : r.getLsbD 0 = false := by
    rw [BitVec.getLsbD, Nat.testBit_zero]
    have : r.toNat % 2 = 0 := by omega
    simp [this]
  have hs : (r >>> 1).toNat = r.toNat / 2 := by rw [BitVec.toNat_ushiftRight, Nat.shiftRight_eq_div_pow]
  unfold bst
  rw [hb]
  simp only [Bool.false_eq_true, if_false, BitVec.xor_zero]
  rw [hs]
  omega
theorem bst_odd' {r : BitVec 32} (h : (r.toNat : Int) % 2 = 1) : bits .xor .u32 ((r.toNat : Int) / 2) 3988292384 = ((bst r).toNat : Int) := by
  have hb : r.getLsbD 0 = true := by
    rw [BitVec.getLsbD, Nat.testBit_zero]
    have : r.toNat % 2 = 1 := by omega
    simp [this]
  have hs : (r >>> 1).toNat = r.toNat / 2 := by rw [BitVec.toNat_ushiftRight, Nat.shiftRight_eq_div_pow]
  have e : (r.toNat : Int) / (2 : Int) = (((r >>> 1).toNat : Nat) : Int) := by rw [hs]; omega
  unfold bst
  rw [hb, e]
  exact xor_u32 (r >>> 1) crcPoly
theorem bstN8 (r : BitVec 32) : bstN 8 r = bst4 (bst4 r) := rfl
set_option maxRecDepth 100000 in
set_option maxHeartbeats 1600000 in
theorem rsum_any {w : World} {ao : Option Addr} {b : Bs} (hr : RowRd ByteR w ao b) (cap : Nat) : Calls Try.prog 100 #[.slice ao b.length cap] w fun e w' => e = .returned (.int .i64 (crc b)) ∧ w = w' := by
  have hl := hr.len
  unfold maxLen at hl
  have HR := Lib.hid hr
  clear hr
  go_enter Try.func100, Try.ntmps100
  go_wp2_with fail
  go_loopw [3, 4] (fun s3 s4 wr => ∃ i : Nat, i ≤ b.length ∧ s4 = .int .i64 i ∧ s3 = u32V (crcL (BitVec.allOnes 32) (b.take i)) ∧ wr = w) (fun _ s4 _ => b.length - (intOf s4).toNat)
  case atStart => exact ⟨0, Nat.zero_le _, rfl, rfl, rfl⟩
  case round =>
    obtain ⟨i, hi, rfl, rfl, rfl⟩ := hrel
    unfold u32V
    by_cases hlt : i < b.length
    · have q1 : (i : Int) < (b.length : Int) := by omega
      obtain ⟨bb, off, rfl, _⟩ := byte_addr HR.out hlt
      have y0 := byte_rd HR.out hlt
      unfold byteV at y0
      have hnk : crcL (BitVec.allOnes 32) (b.take (i + 1)) = crcByte (crcL (BitVec.allOnes 32) (b.take i)) b[i] := by rw [List.take_succ_eq_append_getElem hlt, crcL_snoc]
      generalize b[i] = c at *
      generalize crcL (BitVec.allOnes 32) (b.take i) = r1 at *
      have hc := c.toNat_lt
      have e1 := byte_u32 r1 c
      obtain ⟨x, hx⟩ : ∃ x, r1 ^^^ BitVec.ofNat 32 c.toNat = x := ⟨_, rfl⟩
      have hnk2 : crcByte r1 c = bstN 8 x := by unfold crcByte; rw [hx]; rfl
      rw [hx] at e1
      rw [hnk2] at hnk
      have Hnk := Lib.hid hnk
      clear hx hnk hnk2 hlt
      go_wp2_with fail
      obtain ⟨wo, hwo⟩ : ∃ wo : World, wo = wr := ⟨_, rfl⟩
      subst hwo
      clear e1
      go_loopw [3, 5] (fun s3 s5 wq => ∃ k : Nat, k ≤ 8 ∧ s5 = .int .i64 k ∧ s3 = u32V (bstN k x) ∧ wq = wo) (fun _ s5 _ => 8 - (intOf s5).toNat)
      case atStart => exact ⟨0, Nat.zero_le _, rfl, rfl, rfl⟩
      case round =>
        obtain ⟨k, hk, rfl, rfl, rfl⟩ := hrel
        unfold u32V
        by_cases hlk : k < 8
        · have q2 : (k : Int) < 8 := by omega
          have hst : bstN (k + 1) x = bst (bstN k x) := rfl
          generalize bstN k x = y at *
          have hyl := y.isLt
          have hy : ((y.toNat : Int) % 2 = 0) ∨ ((y.toNat : Int) % 2 = 1) := by omega
          rcases hy with hy | hy
          · have hz := bst_even' hy
            rw [← hst] at hz
            have Hz := Lib.hid hz
            clear hz hst hlk
            go_wp2_with fail
            go_roundw
            case rel => exact ⟨k + 1, by omega, by go_num, by rw [Hz.out], trivial⟩
            case measure => simp [intOf]; omega
          · have hz := bst_odd' hy
            rw [← hst] at hz
            have Hz := Lib.hid hz
            clear hz hst hlk
            go_wp2_with fail
            go_roundw
            case rel => exact ⟨k + 1, by omega, by go_num, by rw [Hz.out], trivial⟩
            case measure => simp [intOf]; omega
        · have q2 : (8 : Int) ≤ (k : Int) := by omega
          have e : k = 8 := by omega
          subst e
          clear hlk
          go_wp2_with fail
          go_roundw
          case rel => exact ⟨i + 1, by omega, by go_num, by rw [Hnk.out], trivial⟩
          case measure => simp [intOf]; omega
    · have q1 : (b.length : Int) ≤ (i : Int) := by omega
      have e : i = b.length := by omega
      subst e
      rw [List.take_length]
      have hcl := (crcL (BitVec.allOnes 32) b).isLt
      have hfin : (4294967295 : Int) - ((crcL (BitVec.allOnes 32) b).toNat : Int) = crc b := by
        unfold crc crcS
        rw [BitVec.toNat_not]
        omega
      have Hfin := Lib.hid hfin
      have hsg : IntKind.u32.signed = false := rfl
      clear hlt hfin
      go_wp2_with fail
      go_ret
      exact ⟨ret_int (by rw [← Hfin.out]; rfl), rfl⟩
end Go.Proofs.Ytmcckppmciflmaa
namespace Go.Proofs.Ytmcckppmciflmaa
open Go.RowKit

def headG (flag : UInt8) (l : List JW) (i : Nat) : Bs := [flag, UInt8.ofNat l.length] ++ headN (l.take i)
theorem headG_len (flag : UInt8) {l : List JW} {i : Nat} (hi : i ≤ l.length) : (headG flag l i).length = 2 + 2 * i := by
  unfold headG
  simp only [List.length_append, headN_len, List.length_cons, List.length_nil, List.length_take]
  omega
theorem headG_snoc (flag : UInt8) {l : List JW} {i : Nat} (hi : i < l.length) : headG flag l (i + 1) = headG flag l i ++ by2 l[i].1.toNat := by
  unfold headG
  rw [headN_snoc hi, List.append_assoc]
def allB (l : List JW) (i : Nat) : Bs := (l.take i).flatMap Prod.snd
theorem allB_snoc {l : List JW} {i : Nat} (hi : i < l.length) : allB l (i + 1) = allB l i ++ l[i].2 := by
  unfold allB
  rw [List.take_succ_eq_append_getElem hi, List.flatMap_append]
  simp
theorem allB_len {l : List JW} (h : ∀ w ∈ l, w.2.length ≤ 4096) : ∀ i, (allB l i).length ≤ 4096 * i := by
  intro i
  induction i with
  | zero => simp [allB]
  | succ i ih =>
    by_cases hi : i < l.length
    · rw [allB_snoc hi, List.length_append]
      have := h l[i] (List.getElem_mem hi)
      omega
    · have : allB l (i + 1) = allB l i := by unfold allB; rw [List.take_of_length_le (by omega), List.take_of_length_le (by omega)]
      rw [this]; omega
theorem allB_all (l : List JW) : allB l l.length = l.flatMap Prod.snd := by unfold allB; rw [List.take_length]
def lenV : Value → Nat
  | .slice _ n _ => n
  | _ => 0
theorem rep_snoc (x : Bs) (k : Nat) : x ++ List.replicate k (0 : UInt8) ++ [0] = x ++ List.replicate (k + 1) 0 := by rw [List.append_assoc, ← List.replicate_succ']
set_option maxRecDepth 100000 in
set_option maxHeartbeats 3200000 in
theorem rhead_any {w : World} {H : Nat → Prop} {ao : Option Addr} {ws : List (Int × SV)} {l : List JW} (hw : JWrs w H ao ws l) (cap : Nat) (hl : l.length ≤ 8) (hsec : ∀ w ∈ l, 0 ≤ w.1 ∧ w.1 < 65536) (hsz : ∀ w ∈ l, w.2.length ≤ 4096) (flag : UInt8) (size : Nat) (hs0 : 22 ≤ size) (hs1 : size ≤ 4096) :
    Calls Try.prog 91 #[.int .i64 (flag.toNat : Int), .slice ao l.length cap, .int .i64 size] w (CloneP (headB flag l size) w) := by
  have HW := Lib.hid hw
  have HSec := Lib.hid hsec
  have HSz := Lib.hid hsz
  have hflag := flag.toNat_lt
  have hfl1 : (flag.toNat : Int) < 256 := by omega
  have hlv : byteV (UInt8.ofNat l.length) = .int .u8 (l.length : Int) := by unfold byteV; rw [u8_of]; congr 1; omega
  have hll : (l.length : Int) < 256 := by omega
  have hO := OwnB.made w [flag, UInt8.ofNat l.length] #[.int .u8 (flag.toNat : Int), .int .u8 (l.length : Int)] (by rw [← hlv]; rfl) (by unfold maxLen; simp)
  have HO := Lib.hid hO
  clear hw hsec hsz hlv hO
  go_enter Try.func91, Try.ntmps91
  go_wp2_with fail
  go_loopw [7, 8, 9] (fun s7 s8 s9 wr => ∃ (i : Nat) (xo : Option Addr) (xc : Nat) (yo : Option Addr) (ym yc : Nat), i ≤ l.length ∧ s9 = .int .i64 i ∧ s7 = .slice xo (2 + 2 * i) xc ∧ s8 = .slice yo ym yc ∧ Own2 w wr xo (2 + 2 * i) xc (headG flag l i) yo ym yc (allB l i)) (fun _ _ s9 _ => l.length - (intOf s9).toNat)
  case atStart => exact ⟨0, _, _, none, 0, 0, Nat.zero_le _, rfl, rfl, rfl, ⟨HO.out, OwnB.nil HO.out.fr, fun k _ e => by cases e⟩⟩
  case round =>
    obtain ⟨i, xo, xc, yo, ym, yc, hi, rfl, rfl, rfl, hP⟩ := hrel
    have HP := Lib.hid hP
    have hyl := hP.two.len
    have hal := allB_len HSz.out i
    rw [hyl] at hal
    clear HO
    by_cases hlt : i < l.length
    · have q1 : (i : Int) < (l.length : Int) := by omega
      obtain ⟨b, off, s, rfl, hbw, v0, v1, -, -, hbb⟩ := HW.out.at' hlt
      have x0 := (hP.one.fr.cell (p := ⟨b, off + i * 2, none⟩) hbw (fun x => x)).trans v0
      have x1 := (hP.one.fr.cell (p := ⟨b, off + i * 2 + 1, none⟩) hbw (fun x => x)).trans v1
      have hb : b < wr.heap.size := Nat.lt_of_lt_of_le hbw hP.one.fr.size
      clear v0 v1
      have hgs := headG_snoc flag hlt
      have has := allB_snoc hlt
      have hse := HSec.out l[i] (List.getElem_mem hlt)
      have hsz := HSz.out l[i] (List.getElem_mem hlt)
      have hgl := headG_len flag hi
      have hgl2 := headG_len flag (l := l) (i := i + 1) hlt
      generalize l[i] = q at *
      obtain ⟨qn, qb⟩ := q
      obtain ⟨hq0, hq1⟩ := hse
      simp only at x0 x1 hgs has hq0 hq1 hbb hsz
      have hv1 : byteV (UInt8.ofNat (qn.toNat / 256)) = .int .u8 (qn / 256) := by unfold byteV; rw [u8_of]; congr 1; omega
      have hv2 : byteV (UInt8.ofNat qn.toNat) = .int .u8 (qn % 256) := by unfold byteV; rw [u8_of]; congr 1; omega
      have Hv := Lib.hid (show [Value.int .u8 (qn / 256), .int .u8 (qn % 256)] = (by2 qn.toNat).map byteV by rw [← hv1, ← hv2]; rfl)
      have Hgs := Lib.hid hgs
      have Has := Lib.hid has
      have Hgl := Lib.hid hgl2
      have HB := Lib.hid hbb
      have HY := Lib.hid (fun (W : World) (hW : Fr (fun k => w.heap.size ≤ k) wr W) (hbw : b < w.heap.size) => And.intro ((hW.cell (p := ⟨b, off + i * 2, none⟩) hb (show ¬ w.heap.size ≤ b by omega)).trans x0) ((hW.cell (p := ⟨b, off + i * 2 + 1, none⟩) hb (show ¬ w.heap.size ≤ b by omega)).trans x1))
      have hi' : i + 1 ≤ l.length := hlt
      clear hP hyl hgs has hgl hgl2 hv1 hv2 hlt hbb x1
      have wp1 : IntKind.i64.wrap (qn.tdiv 256) = qn / 256 := IntWalk.i64_quo _ _ (by omega)
      have wp2 : IntKind.u8.wrap (qn / 256) = qn / 256 := IntWalk.u8_in _ (by omega)
      have wp3 : IntKind.u8.wrap qn = qn % 256 := IntKind.wrap_u8 _
      go_wp2_with fail
      go_region_held3 (fun W => W.cell? ⟨b, off + i * 2, none⟩ = some (.int .i64 qn))
        (first | exact (HY.out _ ((Fr.refl _ _).drew) hbw).1 | exact (HY.out _ (((Fr.refl _ _).alloc _).drew) hbw).1 | exact (HY.out _ (((Fr.refl _ _).drew).alloc _) hbw).1 | exact (HY.out _ hfB hbw).1)
        ((refine step_app (by rfl) _ _ (by rfl) el_bytes (v := .slice xo (2 + 2 * i) xc) (headG flag l i) (by2 qn.toNat) (headG flag l (i + 1)) Hgs.out.symm w.heap.size (2 + 2 * i) (2 + 2 * (i + 1)) (by rw [Hgl.out]) (by rfl) (HP.out.one.own' (((Fr.refl _ _).drew).alloc _)) (by rfl) (RowRd.of_at (RowAt.of_own (OwnB.made _ (by2 qn.toNat) _ Hv.out (by unfold maxLen; simp [by2])).own rfl) (by unfold maxLen; simp [by2])) rfl (by unfold maxLen; omega) (by omega) (by have := HP.out.one.fr.size; simp; omega) ?_; intro ro6 rc6 w6 o6 g6 a6; have hfB : Fr (fun k => w.heap.size ≤ k) wr w6 := ((((Fr.refl noBlock wr).drew).alloc _).mono (T := fun k => w.heap.size ≤ k) (fun _ x => x.elim)).grown g6 (fun k hk => .inl (HP.out.one.new k hk))))
      have hP6 := HP.out.grown (((Fr.refl noBlock wr).drew).alloc _) o6 (by rw [Hgl.out]) g6 a6
      have HP6 := Lib.hid hP6
      have x1 := (HY.out _ hfB hbw).2
      clear o6 g6 a6 hfB hP6 wp1 wp2 wp3
      go_wp2_with (at_builtin; apply stop_here)
      refine ⟨?_, trivial⟩
      have hal2 : ym + qb.length ≤ 40000 := by omega
      refine wpList_app rfl _ _ rfl el_bytes (v := .slice yo ym yc) (allB l i) qb (allB l (i + 1)) Has.out.symm w.heap.size ym (ym + qb.length) (by rw [Has.out, List.length_append, HP6.out.two.len]) rfl HP6.out.two.own rfl ((HB.out.fr HP6.out.one.fr).rd) rfl (by unfold maxLen; omega) (by omega) (by have := HP6.out.two.fr.size; omega) ?_
      intro so sc w7 o7 g7 a7
      go_frame
      have hP7 := (HP6.out.symm.grown (Fr.refl _ _) o7 (by rw [Has.out, List.length_append, HP6.out.two.len]) g7 a7).symm
      have HP7 := Lib.hid hP7
      clear o7 g7 a7 hP7 x1
      go_wp2_with fail
      go_roundw
      case rel => exact ⟨i + 1, _, _, _, _, _, hi', by go_num, rfl, rfl, HP7.out⟩
      case measure => simp [intOf]; omega
    · have q1 : (l.length : Int) ≤ (i : Int) := by omega
      have e : i = l.length := by omega
      subst e
      have HA := Lib.hid (allB_all l)
      clear hlt hP
      go_wp2_with fail
      go_loopw [7] (fun s7 wr => ∃ (k : Nat) (xo : Option Addr) (xc : Nat), 2 + 2 * l.length + k ≤ 18 ∧ s7 = .slice xo (2 + 2 * l.length + k) xc ∧ Own2 w wr xo (2 + 2 * l.length + k) xc (headG flag l l.length ++ List.replicate k 0) yo ym yc (allB l l.length)) (fun s7 _ => 18 - lenV s7)
      case atStart => exact ⟨0, _, _, by omega, rfl, by simpa using HP.out⟩
      case round =>
        obtain ⟨k, xo, xc, hk, rfl, hP⟩ := hrel
        clear HP
        have HP := Lib.hid hP
        have hgl := hP.one.len
        by_cases hlt : 2 + 2 * l.length + k < 18
        · have q1 : (2 + 2 * (l.length : Int) + (k : Int)) < 18 := by omega
          have Hgl := Lib.hid hgl
          clear hP hgl hlt
          go_wp2_with (at_builtin; apply stop_here)
          refine ⟨?_, trivial⟩
          refine wpList_app rfl _ _ rfl el_bytes (v := .slice xo (2 + 2 * l.length + k) xc) (headG flag l l.length ++ List.replicate k 0) [0] (headG flag l l.length ++ List.replicate (k + 1) 0) (rep_snoc _ _) w.heap.size (2 + 2 * l.length + k) (2 + 2 * l.length + (k + 1)) (by rw [← rep_snoc, List.length_append, Hgl.out]; rfl) rfl (HP.out.one.own' ((Fr.refl _ _).alloc _)) rfl (RowRd.one (heap_new _ _) (0 : UInt8) rfl) rfl (by unfold maxLen; omega) (by omega) (by have := HP.out.one.fr.size; simp; omega) ?_
          intro so sc w7 o7 g7 a7
          go_frame
          have HP7 := Lib.hid (HP.out.grown ((Fr.refl _ _).alloc _) o7 (by rw [← rep_snoc, List.length_append, Hgl.out]; rfl) g7 a7)
          clear o7 g7 a7
          go_wp2_with fail
          go_roundw
          case rel => exact ⟨k + 1, _, _, by omega, rfl, HP7.out⟩
          case measure => simp [lenV]; omega
        · have e : k = 16 - 2 * l.length := by omega
          have q1 : 18 ≤ (2 + 2 * (l.length : Int) + (k : Int)) := by omega
          have hym := hP.two.len
          rw [HA.out] at HP hym
          have hcr := crc_range (l.flatMap Prod.snd)
          have hsb : sumB l = by4 (crc (l.flatMap Prod.snd)).toNat := by unfold sumB crc; rw [Int.toNat_natCast]
          have hsum := rsum_any HP.out.two.rd yc
          rw [hym] at hsum
          have Hsum := Lib.hid hsum
          obtain ⟨S, hS⟩ : ∃ S, crc (l.flatMap Prod.snd) = S := ⟨_, rfl⟩
          rw [hS] at hcr hsb Hsum
          obtain ⟨hS0, hS1⟩ := hcr
          have v1 : byteV (UInt8.ofNat (S.toNat / 16777216)) = .int .u8 (S / 16777216) := by unfold byteV; rw [u8_of]; congr 1; omega
          have v2 : byteV (UInt8.ofNat (S.toNat / 65536)) = .int .u8 (S / 65536 % 256) := by unfold byteV; rw [u8_of]; congr 1; omega
          have v3 : byteV (UInt8.ofNat (S.toNat / 256)) = .int .u8 (S / 256 % 256) := by unfold byteV; rw [u8_of]; congr 1; omega
          have v4 : byteV (UInt8.ofNat S.toNat) = .int .u8 (S % 256) := by unfold byteV; rw [u8_of]; congr 1; omega
          have Hv := Lib.hid (show [Value.int .u8 (S / 16777216), .int .u8 (S / 65536 % 256), .int .u8 (S / 256 % 256), .int .u8 (S % 256)] = (by4 S.toNat).map byteV by rw [← v1, ← v2, ← v3, ← v4]; rfl)
          have HSb := Lib.hid hsb
          subst e
          clear hlt hP hgl v1 v2 v3 v4 hsb hS hsum hym
          go_wp2_with fail
          refine Hsum.out.mono ?_
          rintro e w3 ⟨rfl, rfl⟩
          have hp1 : S / 16777216 < 256 := by omega
          have hp2 : 0 ≤ S / 16777216 := by omega
          go_wp2_with (at_builtin; apply stop_here)
          refine ⟨?_, trivial⟩
          have hgl := headG_len flag (l := l) (i := l.length) (Nat.le_refl _)
          have hdl : headB flag l size = (headG flag l l.length ++ List.replicate (16 - 2 * l.length) 0 ++ by4 S.toNat) ++ List.replicate (size - 22) 0 := by
            unfold headB headG
            rw [HSb.out, List.take_length]
          refine wpList_app rfl _ _ rfl el_bytes (v := .slice xo (2 + 2 * l.length + (16 - 2 * l.length)) xc) (headG flag l l.length ++ List.replicate (16 - 2 * l.length) 0) (by4 S.toNat) _ rfl w.heap.size (2 + 2 * l.length + (16 - 2 * l.length)) 22 (by simp [hgl, by4]; omega) rfl (HP.out.one.own' ((Fr.refl _ _).alloc _)) rfl (RowRd.of_at (RowAt.of_own (OwnB.made _ (by4 S.toNat) _ Hv.out (by unfold maxLen; simp [by4])).own rfl) (by unfold maxLen; simp [by4])) rfl (by unfold maxLen; omega) (by omega) (by have := HP.out.one.fr.size; simp; omega) ?_
          intro so sc w7 o7 g7 a7
          go_frame
          have hO7 := HP.out.one.grown ((Fr.refl _ _).alloc _) o7 (by simp [hgl, by4]; omega) g7
          obtain ⟨X, hX⟩ : ∃ X, headG flag l l.length ++ List.replicate (16 - 2 * l.length) 0 ++ by4 S.toNat = X := ⟨_, rfl⟩
          rw [hX] at hO7 hdl
          have HO7 := Lib.hid hO7
          have Hdl := Lib.hid hdl
          clear o7 g7 a7 hO7 hX hdl hgl HP Hv HSb hp1 hp2
          go_wp2_with fail
          go_loopw [7] (fun s7 wr => ∃ (k : Nat) (xo : Option Addr) (xc : Nat), 22 + k ≤ size ∧ s7 = .slice xo (22 + k) xc ∧ OwnB w wr xo (22 + k) xc (X ++ List.replicate k 0)) (fun s7 _ => size - lenV s7)
          case atStart => exact ⟨0, _, _, by omega, rfl, by simpa using HO7.out⟩
          case round =>
            obtain ⟨k, xo, xc, hk, rfl, hP⟩ := hrel
            have HP := Lib.hid hP
            have hgl := hP.len
            clear HO7
            by_cases hlt : 22 + k < size
            · have q1 : 22 + (k : Int) < (size : Int) := by omega
              have Hgl := Lib.hid hgl
              clear hP hgl hlt
              go_wp2_with (at_builtin; apply stop_here)
              refine ⟨?_, trivial⟩
              refine wpList_app rfl _ _ rfl el_bytes (v := .slice xo (22 + k) xc) (X ++ List.replicate k 0) [0] (X ++ List.replicate (k + 1) 0) (rep_snoc _ _) w.heap.size (22 + k) (22 + (k + 1)) (by rw [← rep_snoc, List.length_append, Hgl.out]; rfl) rfl (HP.out.own' ((Fr.refl _ _).alloc _)) rfl (RowRd.one (heap_new _ _) (0 : UInt8) rfl) rfl (by unfold maxLen; omega) (by omega) (by have := HP.out.fr.size; simp; omega) ?_
              intro so sc w7 o7 g7 a7
              go_frame
              have HP7 := Lib.hid (HP.out.grown ((Fr.refl _ _).alloc _) o7 (by rw [← rep_snoc, List.length_append, Hgl.out]; rfl) g7)
              clear o7 g7 a7
              go_wp2_with fail
              go_roundw
              case rel => exact ⟨k + 1, _, _, by omega, rfl, HP7.out⟩
              case measure => simp [lenV]; omega
            · have e : k = size - 22 := by omega
              have q1 : (size : Int) ≤ 22 + (k : Int) := by omega
              subst e
              clear hlt hP hgl
              go_wp2_with fail
              go_ret
              obtain ⟨s, hs, h1, h2, h3, h4⟩ := HP.out.clone
              subst hs
              rw [← Hdl.out] at h1 h2
              exact ⟨_, rfl, h1, h2, h3, h4⟩
theorem rhead_jat {w : World} {H : Nat → Prop} {ao : Option Addr} {ws : List (Int × SV)} {l : List JW} (hw : JWrs w H ao ws l) (hH : ∀ k, H k → k < w.heap.size) (cap : Nat) (hl : l.length ≤ 8) (hsec : ∀ w ∈ l, 0 ≤ w.1 ∧ w.1 < 65536) (hsz : ∀ w ∈ l, w.2.length ≤ 4096) (flag : UInt8) (fi : Int) (hfi : (flag.toNat : Int) = fi) (size : Nat) (hs0 : 22 ≤ size) (hs1 : size ≤ 4096) {X : Bs} (hX : headB flag l size = X) :
    Calls Try.prog 91 #[.int .i64 fi, .slice ao l.length cap, .int .i64 size] w fun e w' => ∃ sa sc, e = .returned (.slice sa X.length sc) ∧ Bes ByteR sa X w' H ∧ Fr noBlock w w' := by
  subst hX
  rw [← hfi]
  refine (rhead_any hw cap hl hsec hsz flag size hs0 hs1).mono ?_
  rintro e w' ⟨⟨sa, sn, sc⟩, rfl, h1, h2, h3, h4⟩
  simp only at h1
  subst h1
  exact ⟨sa, sc, rfl, Bes.new h2 h4 hH, h3⟩
end Go.Proofs.Ytmcckppmciflmaa
