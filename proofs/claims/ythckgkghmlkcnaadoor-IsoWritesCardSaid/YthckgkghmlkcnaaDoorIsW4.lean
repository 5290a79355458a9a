/-
  THE WALKS of the document's Text and count.
-/
import Derived.Test.YthckgkghmlkcnaaDoorIsW3
import Derived.Test.YthckgkghmlkcnaaDoorIsG
import Derived.Test.YthckgkghmlkcnaaDoorRtRPackY
import Derived.Test.YthckgkghmlkcnaaDoorIsW1
import Derived.Test.YthckgkghmlkcnaaDoorIsI
namespace Go.Proofs.YthckgkghmlkcnaaDoor
open Go.RowKit

set_option maxRecDepth 100000 in
set_option maxHeartbeats 3200000 in
theorem rright_any (t : ByteArray) {ao : Option Addr} {l : List Fld} {w : World} (h : RowRd FldR w ao l) (cap : Nat) (hs : SmallM t l) : Calls Tryd.prog 23 #[.agg #[.string t, .slice ao l.length cap]] w (RightP t l w) := by
  have HR := Lib.hid h
  have Hv := Lib.hid hs.v
  have hn := hs.n
  unfold maxLen at hn
  obtain ⟨res, hres⟩ : ∃ r, rightM t l = r := ⟨_, rfl⟩
  unfold RightP
  rw [hres]
  obtain ⟨e0, he0⟩ : ∃ e, valueE (bl t) 1 4 = e := ⟨_, rfl⟩
  have H0 := Lib.hid (show (e0 = 0 → res = rightF 0 (l.drop 0)) ∧ (e0 ≠ 0 → res = e0) by
    unfold rightM at hres
    rw [he0] at hres
    by_cases hz : e0 = 0
    · rw [if_neg (by simpa using hz)] at hres
      exact ⟨fun _ => hres.symm, fun h => absurd hz h⟩
    · rw [if_pos hz] at hres
      exact ⟨fun h => absurd h hz, fun _ => hres.symm⟩)
  have HV0 := Lib.hid (fun W => rval_any t 1 4 W hs.t (.inl rfl) (by omega))
  rw [he0] at HV0
  clear h hs hres he0
  go_enter Tryd.func23, Tryd.ntmps23
  go_wp2_with fail
  refine (HV0.out _).mono ?_
  rintro e w1 ⟨rfl, rfl⟩
  have HF0 := Lib.hid ((Fr.refl noBlock w).alloc (.cells #[.string t, .slice ao l.length cap] 27))
  by_cases hz : e0 = 0
  · subst hz
    have H1 := Lib.hid (H0.out.1 rfl)
    clear H0
    go_wp2_with fail
    go_loop [4, 5] (fun s4 s5 => ∃ (i : Nat) (last : Int), i ≤ l.length ∧ s5 = .int .i64 i ∧ s4 = .int .i64 last ∧ Hid (res = rightF last (l.drop i))) (fun _ s5 => l.length - (intOf s5).toNat)
    case atStart => exact ⟨0, 0, Nat.zero_le _, rfl, rfl, H1⟩
    case round =>
      clear H1
      obtain ⟨i, last, hi, rfl, rfl, HI⟩ := hrel
      by_cases hlt : i < l.length
      · have q1 : (i : Int) < (l.length : Int) := by omega
        have q0 : (0 : Int) ≤ (i : Int) := by omega
        have hi' : i + 1 ≤ l.length := hlt
        obtain ⟨b, off, rfl, hb, y0, y1⟩ := fld_cells (HR.out.fr0 HF0.out) hlt
        have hdr : l.drop i = l[i] :: l.drop (i + 1) := (List.drop_eq_getElem_cons hlt)
        have hvs := Hv.out l[i] (List.getElem_mem hlt)
        generalize l[i] = f at *
        obtain ⟨fn, fv⟩ := f
        simp only at y0 y1 hvs
        have hR := HI.out
        rw [hdr] at hR
        unfold rightF at hR
        simp only at hR
        obtain ⟨kd, hkd⟩ : ∃ x, kindOf fn = x := ⟨_, rfl⟩
        obtain ⟨lg, hlg⟩ : ∃ x, longOf fn = x := ⟨_, rfl⟩
        obtain ⟨ok, hok⟩ : ∃ x, fmtOk fn = x := ⟨_, rfl⟩
        have HFm := Lib.hid (fun W => rformat_any fn W)
        unfold FmtP at HFm
        rw [hkd, hlg, hok] at hR HFm
        have hlim : ok = true → (kd = 1 ∨ kd = 2 ∨ kd = 3 ∨ kd = 4 ∨ kd = 5) ∧ 1 ≤ lg ∧ lg ≤ 9223372036854775807 := fun h => by
          have := fmt_facts (hok.trans h)
          have h1 := this.l1
          have h9 := this.l9
          have k1 := this.k1
          have k5 := this.k5
          rw [hlg] at h1 h9
          rw [hkd] at k1 k5
          omega
        obtain ⟨ev, hev⟩ : ∃ e, valueE (bl fv) kd lg = e := ⟨_, rfl⟩
        rw [hev] at hR
        have HVv := Lib.hid (fun h W => rval_any fv kd lg W hvs (hlim h).1 (hlim h).2)
        rw [hev] at HVv
        have HRes := Lib.hid hR
        clear hkd hlg hok hev hlim hR hdr hlt HI hvs
        have hfz : fn ≤ last ∨ last < fn := by omega
        rcases hfz with hle | hgt
        · have HRes2 := Lib.hid (show res = 13 from HRes.out.trans (if_pos (.inl hle)))
          clear HRes
          go_wp2_with fail
          refine (HFm.out _).mono ?_
          rintro e w2 ⟨rfl, rfl⟩
          go_wp2_with fail
          go_ret
          exact ⟨ret_int HRes2.out.symm, HF0.out⟩
        · cases ok with
          | false =>
            have HRes2 := Lib.hid (show res = 13 from HRes.out.trans (if_pos (.inr rfl)))
            clear HRes
            go_wp2_with fail
            refine (HFm.out _).mono ?_
            rintro e w2 ⟨rfl, rfl⟩
            go_wp2_with fail
            go_ret
            exact ⟨ret_int HRes2.out.symm, HF0.out⟩
          | true =>
            have hRes2 : res = if ev ≠ 0 then ev else rightF fn (l.drop (i + 1)) := HRes.out.trans (if_neg (by simp; omega))
            have HV2 := Lib.hid (HVv.out rfl)
            clear HRes HVv
            by_cases hz : ev = 0
            · subst hz
              have HN := Lib.hid (hRes2.trans (if_neg (by simp)))
              clear hRes2
              go_wp2_with fail
              refine (HFm.out _).mono ?_
              rintro e w2 ⟨rfl, rfl⟩
              go_wp2_with fail
              refine (HV2.out _).mono ?_
              rintro e w2 ⟨rfl, rfl⟩
              go_wp2_with fail
              go_round
              case rel => exact ⟨i + 1, fn, hi', by go_num, rfl, HN⟩
              case measure => simp [intOf]; omega
            · have HN := Lib.hid (hRes2.trans (if_pos hz))
              have hne : (ev != 0) = true := by simpa using hz
              clear hRes2 hz
              go_wp2_with fail
              refine (HFm.out _).mono ?_
              rintro e w2 ⟨rfl, rfl⟩
              go_wp2_with fail
              refine (HV2.out _).mono ?_
              rintro e w2 ⟨rfl, rfl⟩
              go_wp2_with fail
              go_ret
              exact ⟨ret_int HN.out.symm, HF0.out⟩
      · have q1 : (l.length : Int) ≤ (i : Int) := by omega
        have HRes := Lib.hid (show res = 0 by
          have := HI.out
          rw [List.drop_eq_nil_of_le (by omega)] at this
          exact this)
        clear hlt HI
        go_wp2_with fail
        go_ret
        exact ⟨ret_int HRes.out.symm, HF0.out⟩
  · have hb0 : (e0 != 0) = true := by simpa using hz
    have HRes := Lib.hid (H0.out.2 hz)
    clear hz H0
    go_wp2_with fail
    go_ret
    exact ⟨ret_int HRes.out.symm, HF0.out⟩
end Go.Proofs.YthckgkghmlkcnaaDoor
namespace Go.Proofs.YthckgkghmlkcnaaDoor
open Go.RowKit

theorem text_size (n k : Nat) : (strB (textB n k)).size = k := by rw [strB_size, textB_len]
theorem conv_new1 (W : World) (x : UInt8) : (convert 22 9 (.slice (some ⟨W.heap.size, 0, none⟩) 1 1)).run Tryd.prog (W.alloc (.cells #[.int .u8 (x.toNat : Int)] 5)) = .ok (.string (strB [x])) (W.alloc (.cells #[.int .u8 (x.toNat : Int)] 5)) := by
  have h := conv_rd (bs := [x]) (RowRd.of_flat (heap_new W (.cells #[.int .u8 (x.toNat : Int)] 5)) rfl (by unfold maxLen; simp)) 1
  exact h
def digN (q : Nat) : UInt8 := UInt8.ofNat (48 + q % 10)
theorem digN_val (q : Nat) : (48 : Int) + (q : Int) % 10 = ((digN q).toNat : Int) := by unfold digN; rw [UInt8.toNat_ofNat']; omega
def RTextP (n k : Nat) (w : World) (e : Ending) (w' : World) : Prop := e = .returned (.tuple #[.string (strB (textB n k)), .int .i64 0]) ∧ Fr noBlock w w'
set_option maxRecDepth 100000 in
set_option maxHeartbeats 3200000 in
theorem rtext_any (n k : Nat) (w : World) (hk : 1 ≤ k ∧ k ≤ 19) (hn : n < 10 ^ k) (hn63 : n ≤ 9223372036854775807) : Calls Tryd.prog 61 #[.int .i64 n, .int .i64 k] w (RTextP n k w) := by
  obtain ⟨hk1, hk2⟩ := hk
  have q1 : (1 : Int) ≤ (k : Int) := by omega
  have q2 : (k : Int) ≤ 19 := by omega
  have q3 : (0 : Int) ≤ (n : Int) := by omega
  have q4 : (n : Int) ≤ 9223372036854775807 := by omega
  have d1 : decide ((n : Int) < 0) = false := by simp
  have d2 : decide ((k : Int) < 1) = false := by simp; omega
  have d3 : decide (19 < (k : Int)) = false := by simp; omega
  have Hn := Lib.hid hn
  clear hn
  go_enter Tryd.func61, Tryd.ntmps61
  go_wp2_with fail
  go_loopw [0, 6, 7] (fun s0 s6 s7 wr => ∃ i : Nat, i ≤ k ∧ s7 = .int .i64 i ∧ s0 = .int .i64 ((n / 10 ^ i : Nat) : Int) ∧ s6 = .string (strB (textB n i)) ∧ Hid (Fr noBlock w wr)) (fun _ _ s7 _ => k - (intOf s7).toNat)
  case atStart => exact ⟨0, Nat.zero_le _, rfl, by simp, rfl, Lib.hid (Fr.refl _ _)⟩
  case round =>
    obtain ⟨i, hi, rfl, rfl, rfl, HF⟩ := hrel
    by_cases hlt : i < k
    · have h1 : (i : Int) < (k : Int) := by omega
      have hi1 : i + 1 ≤ k := hlt
      have hq1 : n / 10 ^ (i + 1) = n / 10 ^ i / 10 := by rw [Nat.pow_succ, Nat.div_div_eq_div_mul]
      have hle : n / 10 ^ i ≤ n := Nat.div_le_self _ _
      have hcat : strB [digN (n / 10 ^ i)] ++ strB (textB n i) = strB (textB n (i + 1)) := strB_cat _ _
      have hsz := text_size n i
      obtain ⟨S, hS⟩ : ∃ S, strB (textB n i) = S := ⟨_, rfl⟩
      rw [hS] at hcat hsz ⊢
      generalize n / 10 ^ i = q at *
      have hv := digN_val q
      have hqI : (q : Int) ≤ 9223372036854775807 := by omega
      have hw1 : IntKind.u8.wrap (48 + (q : Int) % 10) = ((digN q).toNat : Int) := by rw [← hv]; simp [IntKind.wrap, IntKind.bits, IntKind.signed]; omega
      have hw2 : (q : Int).tmod 10 = (q : Int) % 10 := Int.tmod_eq_emod_of_nonneg (by omega)
      have cn := conv_new1 wr (digN q)
      have hsz2 : (strB [digN q]).size = 1 := rfl
      have hnc : ¬ (9223372036854775807 < 1 + S.size) := by omega
      have hnc2 : 1 + S.size ≤ 9223372036854775807 := by omega
      have HC := Lib.hid hcat
      have HQ := Lib.hid hq1
      have HF2 := Lib.hid (HF.out.alloc (.cells #[.int .u8 ((digN q).toNat : Int)] 5))
      clear hq1 hcat hlt hS
      go_wp2_with fail
      go_roundw
      case rel => exact ⟨i + 1, hi1, by go_num, by rw [HQ.out]; rfl, by rw [HC.out], HF2⟩
      case measure => simp [intOf]; omega
    · have h1 : (k : Int) ≤ (i : Int) := by omega
      have e : i = k := by omega
      subst e
      have e0 : n / 10 ^ i = 0 := Nat.div_eq_of_lt Hn.out
      rw [e0]
      clear hlt
      go_wp2_with fail
      go_ret2
      exact ⟨rfl, HF.out⟩
theorem rpack_new (s : ByteArray) (w : World) (hd : (bl s).all isDig = true) (hs : s.size ≤ 999) : Calls Tryd.prog 37 #[.string s] w (ReadP (packB (bl s)) 0 w) := by
  refine (rpack_yes s w hs (dig_look hd hs)).mono ?_
  rintro e w' ⟨v, rfl, r, f, n⟩
  rw [packL_eq] at r
  obtain ⟨ao, cap, ev, -, -, -, -⟩ := r.shape
  subst ev
  exact ⟨⟨ao, _, cap⟩, rfl, rfl, r, f, n⟩
set_option maxRecDepth 100000 in
set_option maxHeartbeats 1600000 in
theorem rcount_new (n k : Nat) (w : World) (hk : k = 2 ∨ k = 3) (hn : n < 10 ^ k) : Calls Tryd.prog 39 #[.int .i64 n, .int .i64 k] w (CloneP (packB (textB n k)) w) := by
  have h10 : n < 1000 := by
    rcases hk with rfl | rfl
    · omega
    · omega
  have HT := Lib.hid (rtext_any n k w (by omega) hn (by omega))
  have HP := Lib.hid (fun W => rpack_new (strB (textB n k)) W (by rw [bl_strB]; exact (num_text hk hn).2) (by rw [text_size]; omega))
  rw [bl_strB] at HP
  unfold RTextP at HT
  unfold ReadP at HP
  clear hk hn h10
  go_enter Tryd.func39, Tryd.ntmps39
  go_wp2_with fail
  refine HT.out.mono ?_
  rintro e w1 ⟨rfl, f1⟩
  have HF1 := Lib.hid f1
  clear f1 HT
  go_wp2_with fail
  refine (HP.out _).mono ?_
  rintro e w2 ⟨⟨sa, sn, sc⟩, rfl, h1, h2, h3, h4⟩
  have HFin := Lib.hid (show CloneP (packB (textB n k)) w (.returned (.slice sa sn sc)) w2 from ⟨⟨sa, sn, sc⟩, rfl, h1, h2, HF1.out.trans' h3, fun k hk => by have := h4 k hk; have := HF1.out.size; omega⟩)
  clear h1 h2 h3 h4 HF1 HP
  unfold SV.val
  dsimp only
  go_wp2_with fail
  go_ret
  exact HFin.out
end Go.Proofs.YthckgkghmlkcnaaDoor
