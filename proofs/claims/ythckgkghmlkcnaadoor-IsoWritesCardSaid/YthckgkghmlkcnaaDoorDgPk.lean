/-
  THE WALK of digits.Pack where the text is taken: the bytes.
-/
import Derived.Deep.DeepCutAuto
import Derived.Deep.CutBlock
import Derived.Deep.RegionHeld3
import Derived.IntWalk
import Derived.Test.YthckgkghmlkcnaaDoorDgQ
import Derived.Test.YthckgkghmlkcnaaDoorDgA
import Derived.Test.YthckgkghmlkcnaaDoorBytes
namespace Go.Proofs.YthckgkghmlkcnaaDoor
open Go.RowKit

/-- a new row of zeros -/
theorem zeros_made {w : World} {v : Value} {m : Nat} {base : Nat} (h : w.ownsRow base 5 1 v m (madeCells #[Value.int .u8 0] m).toList) : RowAt 5 ByteR w v (List.replicate m 0) := by
  have hl : (madeCells #[Value.int .u8 0] m).toList = ByteR.flat (List.replicate m 0) := by
    rw [flat_bytes]
    have : (madeCells #[Value.int .u8 0] m).toList = List.replicate m (.int .u8 0) := toList_madeCells_one _ _
    rw [this]
    simp [byteV]
  rw [hl] at h
  exact RowAt.of_own h (by simp)
theorem byte_put {w : World} {g n cap : Nat} {bs : Bs} (h : RowAt 5 ByteR w (.slice (some ⟨g, 0, none⟩) n cap) bs) {i : Nat} (hi : i < bs.length) (c : UInt8) : RowAt 5 ByteR (w.setCell ⟨g, i, none⟩ (.int .u8 (c.toNat : Int))) (.slice (some ⟨g, 0, none⟩) n cap) (bs.set i c) := by
  have := h.set (u := .int .u8 (c.toNat : Int)) hi (j := 0) (by decide) c rfl
  simpa [byteK] using this
theorem nib_e : ∀ d < 10, bits .or .u8 0 ((48 + ((d : Nat) : Int)) % 16 * 16) = ((UInt8.ofNat ((48 + d - 48) * 16)).toNat : Int) := by decide
theorem nib_o : ∀ h < 10, ∀ d < 10, bits .or .u8 (((UInt8.ofNat ((48 + h - 48) * 16)).toNat : Nat) : Int) ((48 + ((d : Nat) : Int)) % 16) = ((UInt8.ofNat ((48 + h - 48) * 16 + (48 + d - 48))).toNat : Int) := by decide +kernel
def PackYes (s : ByteArray) (w : World) (e : Ending) (w' : World) : Prop := ∃ sv : SV, e = .returned (.tuple #[sv.val, .int .i64 0]) ∧ sv.n = (packL s).length ∧ RowAt 5 ByteR w' sv.val (packL s) ∧ Fr noBlock w w' ∧ ∀ k, sv.val.ownBlock = some k → w.heap.size ≤ k
set_option maxRecDepth 100000 in
set_option maxHeartbeats 1600000 in
theorem dpack_yes (s : ByteArray) (w : World) (hsz : s.size ≤ 999) (he : lookE s = 0) : Calls Tryd.prog 59 #[.string s] w (PackYes s w) := by
  have hlook := Lib.hid (fun W => look_any s W (by unfold maxLen; omega))
  rw [he] at hlook
  have hdig := Lib.hid (look_dig he)
  obtain ⟨i0, hi0, hz0, hz1, hz2⟩ := info_parts infoB
  obtain ⟨m, hm⟩ : ∃ m : Nat, m = (s.size + 1) / 2 := ⟨_, rfl⟩
  have hm' : ((s.size : Int) + 1) / 2 = (m : Int) := by omega
  have hm1 : m ≤ 500 := by omega
  have hma : s.size + 1 ≤ 2 * m + 1 := by omega
  have hmb : 2 * m ≤ s.size + 1 := by omega
  obtain ⟨pl, hpl⟩ : ∃ pl, padL (bl s) = pl := ⟨_, rfl⟩
  have hplen : pl.length = 2 * m := by rw [← hpl, padL_len, bl_len, hm]
  obtain ⟨off, hoff⟩ : ∃ off, s.size % 2 = off := ⟨_, rfl⟩
  have hoff2 : 2 * m = s.size + off := by omega
  have Hres := Lib.hid (show packL s = pairsB pl by rw [packL_eq]; unfold packB; rw [hpl])
  have hat' : ∀ (k : Nat) (hk : k < s.size), pl[k + off]? = some s[k] := by
    intro k hk
    have hbo : (bl s).length % 2 = off := by rw [bl_len]; exact hoff
    have := pad_at (bl s) (k := k) (by rw [bl_len]; exact hk)
    rw [hpl, hbo] at this
    rw [this]
    congr 1
  have Hat := Lib.hid hat'
  have Hst := Lib.hid (show pairsB (partL pl off) = List.replicate m 0 by rw [← hpl, ← hoff, ← bl_len s, pad_first, part_zero _ (by rw [hpl]; exact hplen)])
  have Hplen := Lib.hid hplen
  have Hall := Lib.hid (show pl.all isDig = true by rw [← hpl]; exact padL_dig (look_dig he))
  have Hoff2 := Lib.hid hoff2
  clear he hm hpl hplen hoff hat'
  go_enter Tryd.func59, Tryd.ntmps59
  go_wp2_with fail
  refine (hlook.out _).mono ?_
  rintro e w' ⟨rfl, rfl⟩
  go_wp2_with (at_make; refine wpList_make_full _ rfl _ _ _ rfl 0 5 i0 (.int .u8 0) 1 Tryd.underlying22 hi0 hz0 hz1 .i64 .i64 _ _ m rfl rfl ?c1 ?c2 ?c3 ?c4 ?c5 ?_)
  case c1 => first | rfl | omega
  case c2 => first | rfl | omega
  case c3 => rw [hz2]; omega
  case c4 => unfold maxLen; omega
  case c5 => exact Nat.zero_le _
  intro w1 hown hgrow
  have Hs1 := Lib.hid (And.intro (zeros_made hown) ((Fr.refl noBlock w).grown hgrow (by intro k hk; cases hk)))
  rw [← Hst.out] at Hs1
  have hbl : w.heap.size < w1.heap.size := Hs1.out.1.lt _ rfl
  clear hown hgrow
  go_wp2_with fail
  go_loopw [20] (fun s20 wr => ∃ k : Nat, k ≤ s.size ∧ s20 = .int .i64 k ∧ Hid (Fr noBlock w wr ∧ RowAt 5 ByteR wr (.slice (some ⟨w.heap.size, 0, none⟩) m m) (pairsB (partL pl (k + off))))) (fun s20 _ => s.size - (intOf s20).toNat)
  case atStart => exact ⟨0, Nat.zero_le _, rfl, Lib.hid ⟨Hs1.out.2, by rw [Nat.zero_add]; exact Hs1.out.1⟩⟩
  case round =>
    clear Hs1
    obtain ⟨k, hk, rfl, HB⟩ := hrel
    by_cases hlt : k < s.size
    · have h1 : (k : Int) < (s.size : Int) := by omega
      have hat := run_at s k hlt
      have hdg : isDig s[k] = true := by
        have := hdig.out
        unfold digB at this
        rw [List.all_eq_true] at this
        exact this s[k] (by rw [ByteArray.getElem_eq_getElem_data]; simp)
      have hg := Hat.out k hlt
      have hi : k + off < pl.length := by rw [Hplen.out, Hoff2.out]; omega
      have hgi : pl[k + off] = s[k] := by rw [List.getElem?_eq_getElem hi] at hg; exact Option.some.inj hg
      have hq : (m : Int) - 1 - ((s.size : Int) - 1 - (k : Int)) / 2 = (((k + off) / 2 : Nat) : Int) := by omega
      have hqm : (k + off) / 2 < m := by omega
      have hpp := partL_len pl (k + off) (by omega)
      have hpr : (pairsB (partL pl (k + off))).length = m := pairsB_len m _ (by rw [hpp]; exact Hplen.out)
      obtain ⟨d, hd, hsk, hsn⟩ := dig_nat hdg
      obtain ⟨y0, z0⟩ := byte_at HB.out.2 (i := (k + off) / 2) (by omega)
      have hqI : (((k + off) / 2 : Nat) : Int) < (m : Int) := by omega
      have hk1 : k + 1 ≤ s.size := hlt
      have eko : k + 1 + off = k + off + 1 := by omega
      rcases Nat.mod_two_eq_zero_or_one (k + off) with hev | hod
      · obtain ⟨p1, p2⟩ := part_even Hplen.out hi hev
        have hb2 : ((s.size : Int) - 1 - (k : Int)) % 2 = 1 := by omega
        rw [List.getElem?_eq_getElem (by omega)] at p2
        rw [Option.some.inj p2] at y0
        rw [hgi, hsn] at p1
        have HB' := Lib.hid (byte_put HB.out.2 (i := (k + off) / 2) (by omega) (UInt8.ofNat ((48 + d - 48) * 16)))
        rw [← p1, ← eko] at HB'
        have hF := Lib.hid HB.out.1
        have n1 := Lib.hid (nib_e d hd)
        generalize UInt8.ofNat ((48 + d - 48) * 16) = c9 at *
        rw [hsn] at hat
        clear p1 p2 hg hgi hdg hsk HB hpr hsn
        generalize (k + off) / 2 = q at *
        go_upto_region 9 with fail
        go_region
        all_goals
          rw [n1.out]
          go_wp2_with fail
          go_roundw
          case rel => exact ⟨k + 1, hk1, by go_num, Lib.hid ⟨(hF.out.setCell (p := ⟨w.heap.size, q, none⟩) (.inr (Nat.le_refl _)) _).drew, HB'.out.fr0 ((Fr.refl noBlock _).drew)⟩⟩
          case measure => simp [intOf]; omega
      · obtain ⟨p1, p2⟩ := part_odd Hplen.out hi hod
        have hb2 : ((s.size : Int) - 1 - (k : Int)) % 2 = 0 := by omega
        rw [List.getElem?_eq_getElem (by omega)] at p2
        rw [Option.some.inj p2] at y0
        obtain ⟨h, hh, hnh⟩ : ∃ h, h < 10 ∧ (pl.getD (k + off - 1) 0).toNat = 48 + h := by
          have hlp : k + off - 1 < pl.length := by omega
          have : isDig (pl[k + off - 1]) = true := by
            have hall := Hall.out
            rw [List.all_eq_true] at hall
            exact hall _ (List.getElem_mem hlp)
          obtain ⟨h, h1, h2, h3⟩ := dig_nat this
          exact ⟨h, h1, by rw [List.getD_eq_getElem?_getD, List.getElem?_eq_getElem hlp]; exact h3⟩
        rw [hgi, hsn, hnh] at p1
        rw [hnh] at y0
        have HB' := Lib.hid (byte_put HB.out.2 (i := (k + off) / 2) (by omega) (UInt8.ofNat ((48 + h - 48) * 16 + (48 + d - 48))))
        rw [← p1, ← eko] at HB'
        have hF := Lib.hid HB.out.1
        have n1 := Lib.hid (nib_o h hh d hd)
        generalize UInt8.ofNat ((48 + h - 48) * 16 + (48 + d - 48)) = c9 at *
        have hc0 := (UInt8.ofNat ((48 + h - 48) * 16)).toNat_lt
        rw [hsn] at hat
        unfold byteV at y0
        clear p1 p2 hg hgi hdg hsk HB hpr hsn hnh
        generalize (k + off) / 2 = q at *
        generalize (UInt8.ofNat ((48 + h - 48) * 16)).toNat = c0 at *
        go_upto_region 9 with fail
        go_region
        all_goals
          rw [n1.out]
          go_wp2_with fail
          go_roundw
          case rel => exact ⟨k + 1, hk1, by go_num, Lib.hid ⟨(hF.out.setCell (p := ⟨w.heap.size, q, none⟩) (.inr (Nat.le_refl _)) _).drew, HB'.out.fr0 ((Fr.refl noBlock _).drew)⟩⟩
          case measure => simp [intOf]; omega
    · have h1 : (s.size : Int) ≤ (k : Int) := by omega
      have e : k = s.size := by omega
      subst e
      have HF := Lib.hid HB.out
      rw [← Hoff2.out, ← Hplen.out, partL_all, ← Hres.out] at HF
      have hlen : m = (packL s).length := by rw [Hres.out, pairsB_len m _ Hplen.out]
      have Hlen := Lib.hid hlen
      clear hlt HB hlen
      go_wp2_with fail
      go_ret2
      exact ⟨⟨some ⟨w.heap.size, 0, none⟩, m, m⟩, rfl, Hlen.out, HF.out.2, HF.out.1, fun j hj => by cases hj; exact Nat.le_refl _⟩
end Go.Proofs.YthckgkghmlkcnaaDoor
