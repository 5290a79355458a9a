/-
  THE WALK of digits.Unpack.
-/
import Derived.Lib.Hide
import Derived.Deep.LoopGhost
import Derived.Deep.CutBlock
import Derived.OwnWalk
import Derived.IntWalk
import Derived.Test.YthckgkghmlkcnaaDoorDgP
import Derived.Test.YthckgkghmlkcnaaDoorOwnB
namespace Go.Proofs.YthckgkghmlkcnaaDoor
open Go.RowKit

theorem or48 : ∀ x < 10, bits .or .u8 48 ((x : Nat) : Int) = ((48 + x : Nat) : Int) := by decide
theorem hi_or {c : UInt8} (h : c.toNat / 16 ≤ 9) : bits .or .u8 48 ((c.toNat : Int) / 16) = ((hiD c).toNat : Int) := by
  have := or48 (c.toNat / 16) (by omega)
  rw [show (((c.toNat / 16 : Nat)) : Int) = (c.toNat : Int) / 16 by omega] at this
  rw [this]
  unfold hiD
  rw [UInt8.toNat_ofNat']
  omega
theorem lo_or {c : UInt8} (h : c.toNat % 16 ≤ 9) : bits .or .u8 48 ((c.toNat : Int) % 16) = ((loD c).toNat : Int) := by
  have := or48 (c.toNat % 16) (by omega)
  rw [show (((c.toNat % 16 : Nat)) : Int) = (c.toNat : Int) % 16 by omega] at this
  rw [this]
  unfold loD
  rw [UInt8.toNat_ofNat']
  omega
def unpN (b : Bs) (n : Nat) : Nat := if unpE b n = 0 then (n + 1) / 2 else 0
def unpT (b : Bs) (n : Nat) : Bs := if unpE b n = 0 then unpS b n else []
def UnpP (b : Bs) (n : Nat) (w : World) (e : Ending) (w' : World) : Prop := e = .returned (.tuple #[.string (strB (unpT b n)), .int .i64 (unpN b n), .int .i64 (unpE b n)]) ∧ Fr noBlock w w'
theorem unp_bad {b : Bs} {n : Nat} {x : Int} (h : unpE b n = x) (hx : x ≠ 0) {w w' : World} (f : Fr noBlock w w') : UnpP b n w (.returned (.tuple #[.string (strB []), .int .i64 0, .int .i64 x])) w' := by
  unfold UnpP unpT unpN
  rw [if_neg (by rw [h]; exact hx), if_neg (by rw [h]; exact hx), h]
  exact ⟨rfl, f⟩
theorem unpairs_snoc (l : Bs) (c : UInt8) : unpairs (l ++ [c]) = unpairs l ++ [hiD c, loD c] := by rw [unpairs_append]; rfl
set_option maxRecDepth 100000 in
set_option maxHeartbeats 3200000 in
theorem unpack_any {w : World} {ao : Option Addr} {b : Bs} (h : RowRd ByteR w ao b) (cap n : Nat) (hc : b.length ≤ cap) (hb63 : cap ≤ 9223372036854775807) (hn1 : 1 ≤ n) (hn9 : n ≤ 999) : Calls Tryd.prog 47 #[.slice ao b.length cap, .int .i64 n] w (UnpP b n w) := by
  have HR := Lib.hid h
  have q1 : (1 : Int) ≤ (n : Int) := by omega
  have q9 : (n : Int) ≤ 999 := by omega
  obtain ⟨m, hm⟩ : ∃ m : Nat, (n + 1) / 2 = m := ⟨_, rfl⟩
  have hmI : ((n : Int) + 1) / 2 = (m : Int) := by omega
  by_cases hs : b.length < m
  · have hE : unpE b n = 3 := by unfold unpE; rw [if_neg (by omega), hm, if_pos hs]
    have HE := Lib.hid hE
    have hsI : (b.length : Int) < (m : Int) := by omega
    clear h hE hm hs
    go_enter Tryd.func47, Tryd.ntmps47
    go_wp2_with fail
    go_ret3
    exact unp_bad HE.out (by decide) (Fr.refl _ _)
  · have hsI : (m : Int) ≤ (b.length : Int) := by omega
    have hm1 : 1 ≤ m := by omega
    have hm5 : m ≤ 500 := by omega
    obtain ⟨i0, hi0, hz0, hz1, hz2⟩ := info_parts infoB
    have hcI : (m : Int) ≤ (cap : Int) := by omega
    have hbl : m ≤ b.length := by omega
    have hE0 : unpE b n = if (b.take m).all okN = false then 4 else if n % 2 = 1 ∧ (unpairs (b.take m)).getD 0 0 ≠ 48 then 4 else 0 := by unfold unpE; rw [if_neg (by omega), hm, if_neg hs]
    have HE0 := Lib.hid hE0
    have Hm := Lib.hid hm
    have hmI5 : (m : Int) ≤ 500 := by omega
    clear h hm hs hE0
    go_enter Tryd.func47, Tryd.ntmps47
    go_wp2_with (at_make; refine wpList_make_own _ rfl _ _ _ rfl w.heap.size 5 i0 (.int .u8 0) 1 Tryd.underlying22 hi0 hz0 hz1 .i64 .i64 _ (2 * m) rfl rfl ?c1 ?c2 ?c3 ?c4 ?_)
    case c1 => omega
    case c2 => rw [hz2]; omega
    case c3 => unfold maxLen; omega
    case c4 => exact Nat.le_refl _
    intro w1 hown hgrow
    have HO := Lib.hid (show OwnB w w1 (some ⟨w.heap.size, 0, none⟩) 0 (2 * m) [] from ⟨hown, rfl, (Fr.refl noBlock w).grown hgrow (by intro k hk; cases hk)⟩)
    clear hown hgrow
    go_wp2_with fail
    go_loopw [7, 35] (fun s7 s35 wr => ∃ (i : Nat) (xo : Option Addr) (xn xc : Nat), i ≤ m ∧ s35 = .int .i64 i ∧ s7 = .slice xo xn xc ∧ xn = 2 * i ∧ Hid (OwnB w wr xo xn xc (unpairs (b.take i)) ∧ (b.take i).all okN = true)) (fun _ s35 _ => m - (intOf s35).toNat)
    case atStart => exact ⟨0, _, _, _, Nat.zero_le _, rfl, rfl, rfl, Lib.hid ⟨HO.out, rfl⟩⟩
    case round =>
      obtain ⟨i, xo, xn, xc, hi, rfl, rfl, hxn, HI⟩ := hrel
      clear HO
      by_cases hlt : i < m
      · have r1 : (i : Int) < (m : Int) := by omega
        have r0 : (0 : Int) ≤ (i : Int) := by omega
        have hi1 : i + 1 ≤ m := hlt
        have hib : i < b.length := by omega
        obtain ⟨bb, off, rfl, hbb⟩ := byte_addr HR.out hib
        have y0 := byte_rd (HR.out.fr0 HI.out.1.fr) hib
        have htk : b.take (i + 1) = b.take i ++ [b[i]] := List.take_succ_eq_append_getElem hib
        have hup : unpairs (b.take (i + 1)) = unpairs (b.take i) ++ [hiD b[i], loD b[i]] := by rw [htk, unpairs_snoc]
        have hall : ((b.take (i + 1)).all okN) = okN b[i] := by rw [htk, List.all_append, HI.out.2]; simp
        have hmono : okN b[i] = false → (b.take m).all okN = false := fun hf => by
          rw [List.all_eq_false]
          exact ⟨b[i], by rw [List.mem_take_iff_getElem]; exact ⟨i, by omega, rfl⟩, by simpa using hf⟩
        have hc256 := b[i].toNat_lt
        generalize b[i] = c at *
        unfold byteV at y0
        have HY := Lib.hid y0
        have Hup := Lib.hid hup
        by_cases hok : okN c = true
        · have hok' := hok
          unfold okN at hok'
          simp only [Bool.and_eq_true, decide_eq_true_eq] at hok'
          obtain ⟨k1, k2⟩ := hok'
          have k1I : (c.toNat : Int) / 16 ≤ 9 := by omega
          have k2I : (c.toNat : Int) % 16 ≤ 9 := by omega
          have n1 := hi_or k1
          have n2 := lo_or k2
          have Hall := Lib.hid (hall.trans hok)
          clear hup htk hall hmono hok k1 k2 hlt
          generalize hiD c = ch at *
          generalize loD c = cl at *
          generalize c.toNat = c8 at *
          have N1 := Lib.hid n1
          have N2 := Lib.hid n2
          clear n1 n2
          go_wp2_with (at_builtin; apply stop_here)
          rw [N1.out, N2.out]
          refine ⟨?_, trivial⟩
          refine wpList_app rfl _ _ rfl el_bytes (v := .slice xo (2 * i) xc) (unpairs (b.take i)) [ch, cl] (unpairs (b.take (i + 1))) Hup.out.symm w.heap.size (2 * i) (2 * (i + 1)) (by rw [Hup.out, List.length_append, HI.out.1.len, hxn]; rfl) rfl (by have := HI.out.1.own' ((Fr.refl noBlock wr).alloc (.cells #[.int .u8 (ch.toNat : Int), .int .u8 (cl.toNat : Int)] 5)); rw [hxn] at this; exact this) rfl (RowRd.of_flat (heap_new wr _) rfl (by unfold maxLen; simp)) rfl (by unfold maxLen; omega) (by omega) (Nat.le_trans HI.out.1.fr.size (by simp)) ?_
          intro ao6 cap6 w6 o6 g6 a6
          go_frame
          have HG := Lib.hid (And.intro ((show OwnB w wr xo (2 * i) xc (unpairs (b.take i)) from hxn ▸ HI.out.1).grown ((Fr.refl noBlock wr).alloc (.cells #[.int .u8 (ch.toNat : Int), .int .u8 (cl.toNat : Int)] 5)) o6 (by rw [unpairs_len, List.length_take]; omega) g6) Hall.out)
          clear o6 g6 a6
          go_wp2_with fail
          go_roundw
          case rel => exact ⟨i + 1, _, _, _, hi1, by go_num, rfl, rfl, HG⟩
          case measure => simp [intOf]; omega
        · have hE4 := HE0.out
          rw [if_pos (hmono (by simpa using hok))] at hE4
          have HE := Lib.hid hE4
          have HF := Lib.hid HI.out.1.fr
          have hcs : (9 : Int) < (c.toNat : Int) / 16 ∨ ((c.toNat : Int) / 16 ≤ 9 ∧ (9 : Int) < (c.toNat : Int) % 16) := by
            unfold okN at hok
            simp only [Bool.and_eq_true, decide_eq_true_eq, not_and] at hok
            omega
          clear hup htk hall hmono hok hlt hE4 Hup
          generalize c.toNat = c8 at *
          rcases hcs with k1 | ⟨k1, k2⟩
          all_goals
            go_wp2_with fail
            go_ret3
            exact unp_bad HE.out (by decide) HF.out
      · have r1 : (m : Int) ≤ (i : Int) := by omega
        have e : i = m := by omega
        subst e
        have hall := HI.out.2
        have hE := HE0.out
        rw [if_neg (by rw [hall]; simp)] at hE
        have HF := Lib.hid HI.out.1.fr
        obtain ⟨U, hU⟩ : ∃ U, unpairs (b.take i) = U := ⟨_, rfl⟩
        have hUl : U.length = 2 * i := by rw [← hU, unpairs_len, List.length_take]; omega
        rw [hU] at hE HI
        have hT : unpS b n = U.drop (n % 2) := by unfold unpS; rw [Hm.out, hU]
        have hx : xn = 2 * i := hxn
        obtain ⟨g, cp, eg, hcp, -⟩ := HI.out.1.row.block' (by omega)
        simp only [Value.slice.injEq] at eg
        obtain ⟨rfl, -, rfl⟩ := eg
        obtain ⟨z0, -⟩ := byte_at HI.out.1.row (i := 0) (by omega)
        have hg0 : U[0]'(by omega) = U.getD 0 0 := by simp [List.getD, show 0 < U.length by omega]
        rw [hg0] at z0
        have hrd := HI.out.1.rd
        have HRd := Lib.hid hrd
        have HE := Lib.hid hE
        have HT := Lib.hid hT
        have Hul := Lib.hid hUl
        rw [hUl] at hcp
        clear hlt hall hE hU hT HI
        have hn2 : n % 2 = 0 ∨ n % 2 = 1 := Nat.mod_two_eq_zero_or_one n
        rcases hn2 with h0 | h1
        · have hI : (n : Int) % 2 = 0 := by omega
          have hE0 := HE.out
          rw [if_neg (by omega)] at hE0
          have hT0 := HT.out
          rw [h0, List.drop_zero] at hT0
          have hcv := conv_rd HRd.out xc
          rw [hUl] at hcv
          have HE00 := Lib.hid hE0
          have HT0 := Lib.hid hT0
          clear h0 hE0 hT0 z0
          go_wp2_with fail
          go_ret3
          unfold UnpP unpT unpN
          rw [if_pos HE00.out, if_pos HE00.out, HE00.out, HT0.out, Hm.out]
          exact ⟨rfl, HF.out⟩
        · have hI : (n : Int) % 2 = 1 := by omega
          by_cases h48 : U.getD 0 0 = 48
          · have hE0 := HE.out
            rw [if_neg (by rw [h48]; simp)] at hE0
            have hT0 := HT.out
            rw [h1, List.drop_one] at hT0
            rw [h48] at z0
            have hp := RowRd.piece HRd.out 1 (2 * i - 1)
            rw [byteK, List.take_of_length_le (by rw [List.length_drop]; omega)] at hp
            have hcv := conv_rd hp (xc - 1)
            rw [List.length_drop, Hul.out] at hcv
            have hne : ¬ xc = 1 := by omega
            have hc2 : ((2 * i : Nat) : Int) ≤ (xc : Int) := by omega
            have HE00 := Lib.hid hE0
            have HT0 := Lib.hid hT0
            clear hE0 hT0 h48 h1 hg0 hp
            go_wp2_with fail
            go_ret3
            unfold UnpP unpT unpN
            rw [if_pos HE00.out, if_pos HE00.out, HE00.out, HT0.out, Hm.out]
            exact ⟨rfl, HF.out⟩
          · have hE4 := HE.out
            rw [if_pos ⟨h1, h48⟩] at hE4
            have HE4 := Lib.hid hE4
            have hne : ((U.getD 0 0).toNat : Int) ≠ 48 := fun e => h48 (UInt8.toNat_inj.1 (by show _ = 48; omega))
            have hb0 : (((U.getD 0 0).toNat : Int) != 48) = true := by simpa using hne
            unfold byteV at z0
            generalize ((U.getD 0 0).toNat : Int) = u0 at *
            clear h48 h1 hE4 hg0 hne
            go_wp2_with fail
            go_ret3
            exact unp_bad HE4.out (by decide) HF.out
end Go.Proofs.YthckgkghmlkcnaaDoor
