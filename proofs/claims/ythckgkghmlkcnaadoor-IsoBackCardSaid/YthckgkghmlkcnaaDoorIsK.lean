/-
  THE WALK of IsoBack.
-/
import Derived.Test.YthckgkghmlkcnaaDoorIsZ
import Derived.Test.YthckgkghmlkcnaaDoorIsQ
namespace Go.Proofs.YthckgkghmlkcnaaDoor
open Go.RowKit

theorem par_err {b : Bs} (h : parE b ≠ 0) : parL b = [] ∧ parN b = 0 := by
  refine ⟨?_, if_neg h⟩
  unfold parL
  have : (parseM b).2.2.1 = [] := by
    unfold parE at h
    unfold parseM at h ⊢
    split
    · rfl
    · rename_i h0
      rw [if_neg h0] at h
      split
      · rfl
      · rename_i h1
        rw [if_neg h1] at h
        split
        · rfl
        · rename_i h2
          rw [if_neg h2] at h
          exact absurd rfl h
  rw [this]
  rfl
theorem flds_same {l : List Fld} (h : ∀ f ∈ l, 2 ≤ f.n) : fldsOf (l.map (fun f => (f.n.toNat, bl f.v))) = l := by
  unfold fldsOf
  rw [List.map_map]
  conv => rhs; rw [← List.map_id l]
  refine List.map_congr_left (fun f hf => ?_)
  have := h f hf
  show (⟨((f.n.toNat : Nat) : Int), _⟩ : Fld) = f
  have e : ((f.n.toNat : Nat) : Int) = f.n := by omega
  rw [e]
/-- what is written is read -/
theorem par_write {t : ByteArray} {l : List Fld} (h : rightM t l = 0) (r : Bs) : parE (bytesM t l ++ r) = 0 ∧ parT (bytesM t l ++ r) = t ∧ parL (bytesM t l ++ r) = l ∧ parN (bytesM t l ++ r) = ((bytesM t l).length : Int) := by
  have hp := parse_bytes h r
  have hf : ∀ f ∈ l, 2 ≤ f.n := fun f hf => (fmt_range ((right_fields l 0 (right_parts h).2).1 f hf).2.1).1
  unfold parN parE parT parL
  rw [hp]
  refine ⟨rfl, rfl, flds_same hf, ?_⟩
  rw [if_pos rfl, List.length_append]
  dsimp only
  omega
/-- what is read is written so -/
theorem par_read {b : Bs} (h : parE b = 0) : rightM (parT b) (parL b) = 0 ∧ ∃ N : Nat, parN b = (N : Int) ∧ N ≤ b.length ∧ bytesM (parT b) (parL b) = b.take N := by
  have hq : parseM b = (0, (parseM b).2.1, (parseM b).2.2.1, (parseM b).2.2.2) := by
    unfold parE at h
    rw [← h]
  obtain ⟨h1, h2⟩ := bytes_parse hq
  refine ⟨h1, (bytesM (parT b) (parL b)).length, ?_, ?_, ?_⟩
  · unfold parN
    rw [if_pos h]
    have := congrArg List.length h2
    rw [List.length_append] at this
    have e : bytesM ⟨(parseM b).2.1.toArray⟩ (fldsOf (parseM b).2.2.1) = bytesM (parT b) (parL b) := rfl
    rw [e] at this
    omega
  · have := congrArg List.length h2
    rw [List.length_append] at this
    have e : bytesM ⟨(parseM b).2.1.toArray⟩ (fldsOf (parseM b).2.2.1) = bytesM (parT b) (parL b) := rfl
    rw [e] at this
    omega
  · have e : bytesM ⟨(parseM b).2.1.toArray⟩ (fldsOf (parseM b).2.2.1) = bytesM (parT b) (parL b) := rfl
    rw [e] at h2
    generalize bytesM (parT b) (parL b) = X at *
    have h3 := congrArg (List.take X.length) h2
    rw [List.take_left' rfl] at h3
    exact h3.symm
theorem small_of {t : ByteArray} {l : List Fld} (h : rightM t l = 0) : SmallM t l := by
  obtain ⟨h1, h2⟩ := right_sizes h
  have h3 := (right_parts h).1
  exact ⟨by unfold maxLen; omega, fun f hf => by have := h1 f hf; unfold maxLen; omega, by unfold maxLen; omega⟩
set_option maxRecDepth 100000 in
set_option maxHeartbeats 6400000 in
theorem back_walk {t : ByteArray} {ao bo co : Option Addr} {cap bc cc : Nat} {l : List Fld} {b c : Bs} {w : World} (h : ArgM w t ao cap l) (hb : RowRd ByteR w bo b) (hc : RowRd ByteR w co c) (hcs : ArgS co c.length cc) (hb48 : b.length ≤ 140737488351232) (hc48 : c.length ≤ 140737488351232) :
    Calls Tryd.prog 4 #[.agg #[.string t, .slice ao l.length cap], .slice bo b.length bc, .slice co c.length cc] w (LawP w) := by
  have HA := Lib.hid h
  have HBr := Lib.hid (And.intro hb (And.intro hc hcs))
  have HB0 := Lib.hid (heap_new w (.cells #[.string t, .slice ao l.length cap] 27))
  have HF0 := Lib.hid ((Fr.refl noBlock w).alloc (.cells #[.string t, .slice ao l.length cap] 27))
  have hn24 := h.n
  clear h hb hc hcs
  go_enter Tryd.func4, Tryd.ntmps4
  go_wp2_with fail
  refine (small_any _).mono ?_
  rintro e w1 ⟨rfl, f1⟩
  have HB1 := Lib.hid (f1.obj HB0.out (fun x => x))
  have HF1 := Lib.hid (HF0.out.trans' f1)
  clear f1 HB0 HF0
  have x1 := cell_of HB1.out 1
  have x0 := cell_of HB1.out 0
  simp at x0 x1
  by_cases hlb : 65536 < b.length
  · have hlbI : (65536 : Int) < (b.length : Int) := by omega
    clear hlb
    go_wp2_with fail
    go_ret
    exact LawP.mk' HF1.out
  by_cases hlc : 65536 < c.length
  · have hlbI : (b.length : Int) ≤ 65536 := by omega
    have hlcI : (65536 : Int) < (c.length : Int) := by omega
    clear hlb hlc
    go_wp2_with fail
    go_ret
    exact LawP.mk' HF1.out
  have hlbI : (b.length : Int) ≤ 65536 := by omega
  have hlcI : (c.length : Int) ≤ 65536 := by omega
  clear hlb hlc
  have HBy := Lib.hid (bytes_any t (HA.out.rd.fr0 HF1.out) cap HA.out.small)
  unfold ReadP at HBy
  go_wp2_with fail
  refine HBy.out.mono ?_
  rintro e w2 ⟨⟨sa, sn, sc⟩, rfl, h1, h2, h3, h4⟩
  simp only at h1
  have HB2 := Lib.hid (h3.obj HB1.out (fun x => x))
  have HF2 := Lib.hid (HF1.out.trans' h3)
  unfold SV.val at h2 ⊢
  dsimp only at h2 ⊢
  have HR2 := Lib.hid (And.intro h1 (RowAt.rd h2))
  clear h1 h2 h3 h4 x0 x1 HB1 HF1 HBy
  obtain ⟨er, her⟩ : ∃ x, rightM t l = x := ⟨_, rfl⟩
  rw [her]
  have HEr := Lib.hid her
  clear her
  have x1 := cell_of HB2.out 1
  have x0 := cell_of HB2.out 0
  simp at x0 x1
  go_upto_if 34 with fail
  go_cut [10, 11, 12] from 34 to 58 (fun s10 s11 s12 wx => Hid (Fr noBlock w2 wx))
  case first =>
    by_cases he : er = 0
    · subst he
      have hbr : bytesR t l = bytesM t l := by unfold bytesR; rw [if_pos HEr.out]
      have HR3 := Lib.hid (show sn = (bytesM t l).length ∧ RowRd ByteR w2 sa (bytesM t l) by have := HR2.out; rw [hbr] at this; exact this)
      obtain ⟨p1, p2, p3, p4⟩ := par_write HEr.out b
      have hrl := right_sizes HEr.out
      have hbl := bytesM_len HEr.out
      have hrest := restB_len l (fun f hf => ((right_fields l 0 (right_parts HEr.out).2).1 f hf).2)
      obtain ⟨X, hX⟩ : ∃ X, bytesM t l = X := ⟨_, rfl⟩
      rw [hX] at HR3 p1 p2 p3 p4 hbl
      have hXl : X.length ≤ 110000 := by
        rw [hbl]
        have : (if above l = true then 16 else 8) ≤ 16 := by split <;> omega
        have := hrl.2
        omega
      have hsn : sn = X.length := HR3.out.1
      subst hsn
      have hw2 := HF2.out.size
      have HP4 := Lib.hid (And.intro p1 (And.intro p2 (And.intro p3 p4)))
      clear hbr hrl hbl hrest hX p1 p2 p3 p4 HR2
      go_wp2_with (at_builtin; apply stop_here)
      refine ⟨?_, trivial⟩
      refine wpList_app rfl _ _ rfl el_bytes (v := .slice (some ⟨w2.heap.size, 0, none⟩) 0 0) [] X X rfl w2.heap.size 0 X.length rfl rfl (World.ownsRow_made w2 #[] 0 (Nat.le_refl _) (Nat.zero_le _) rfl) rfl (HR3.out.2.fr0 ((Fr.refl _ _).alloc _)) rfl (by unfold maxLen; omega) (by omega) (by simp) ?_
      intro ao3 cap3 w3 o3 g3 _
      go_frame
      have O3 := Lib.hid (show OwnB w2 w3 ao3 X.length cap3 X from ⟨o3, rfl, ((Fr.refl noBlock w2).alloc _).grown g3 (fun k hk => by simp [Value.ownBlock] at hk; subst hk; exact .inr (Nat.le_refl _))⟩)
      clear o3 g3
      go_wp2_with (at_builtin; apply stop_here)
      refine ⟨?_, trivial⟩
      refine wpList_app rfl _ _ rfl el_bytes (v := .slice ao3 X.length cap3) X b (X ++ b) rfl w2.heap.size X.length (X.length + b.length) (by rw [List.length_append]) rfl O3.out.own rfl (HBr.out.1.fr0 (HF2.out.trans' O3.out.fr)) rfl (by unfold maxLen; omega) (by omega) (by have := O3.out.fr.size; omega) ?_
      intro ao4 cap4 w4 o4 g4 _
      go_frame
      have O4 := Lib.hid (O3.out.grown (Fr.refl noBlock w3) o4 (by rw [List.length_append]) g4)
      clear o4 g4
      have HP := Lib.hid (parse_any O4.out.rd cap4 (by have := O4.out.cap'; rw [List.length_append]; exact this.1) (by have := O4.out.cap'.2; unfold maxLen at this; omega) (fun e => by have := O4.out.row.shape; obtain ⟨_, _, e1, _, _, _, e2⟩ := this; simp only [Value.slice.injEq] at e1; obtain ⟨rfl, _, rfl⟩ := e1; exact (e2 e).2))
      unfold ParseP at HP
      rw [HP4.out.1, HP4.out.2.1, HP4.out.2.2.1, HP4.out.2.2.2, List.length_append] at HP
      go_wp2_with fail
      refine HP.out.mono ?_
      rintro e w5 ⟨⟨fa, fn, fc⟩, rfl, h1, h2, h3, h4⟩
      simp only at h1
      subst h1
      have F5 := Lib.hid (O4.out.fr.trans' h3)
      have R5 := Lib.hid (RowAt.rd h2)
      have B5 := Lib.hid (F5.out.obj HB2.out (fun x => x))
      unfold SV.val
      dsimp only
      clear h2 h3 h4 x0 x1
      have F6 := Lib.hid (F5.out.alloc (.cells #[.string t, .slice fa l.length fc] 27))
      have B6 := Lib.hid (heap_old (.cells #[.string t, .slice fa l.length fc] 27) B5.out)
      have HS := Lib.hid (same_yes t (R5.out.fr0 ((Fr.refl noBlock w5).alloc (.cells #[.string t, .slice fa l.length fc] 27))) (HA.out.rd.fr0 (HF2.out.trans' F6.out)) fc cap (by unfold maxLen; omega))
      unfold SameP at HS
      have y0 := cell_of B6.out 0
      have y1 := cell_of B6.out 1
      simp at y0 y1
      go_wp2_with fail
      refine HS.out.mono ?_
      rintro e w7 ⟨rfl, f7⟩
      have F7 := Lib.hid (F6.out.trans' f7)
      clear f7 y0 y1
      go_wp2_with fail
      go_meet
      exact F7
    · have hne : (er == 0) = false := by simpa using he
      clear he
      go_wp2_with fail
      go_meet
      exact Lib.hid (Fr.refl _ _)
  have HFc := Lib.hid (HF2.out.trans' hcut.out)
  have HBc := Lib.hid (hcut.out.obj HB2.out (fun x => x))
  have HSc := Lib.hid (show bytesR t l = bytesR t l ∧ True from ⟨rfl, trivial⟩)
  clear hcut HB2 HF2 HR2 x0 x1 HSc
  have HPc := Lib.hid (parse_any (HBr.out.2.1.fr0 HFc.out) cc HBr.out.2.2.le HBr.out.2.2.max HBr.out.2.2.none)
  unfold ParseP at HPc
  obtain ⟨pe, hpe⟩ : ∃ x, parE c = x := ⟨_, rfl⟩
  obtain ⟨pt, hpt⟩ : ∃ x, parT c = x := ⟨_, rfl⟩
  obtain ⟨pl, hpl⟩ : ∃ x, parL c = x := ⟨_, rfl⟩
  obtain ⟨pn, hpn⟩ : ∃ x, parN c = x := ⟨_, rfl⟩
  rw [hpe, hpt, hpl, hpn] at HPc
  have HQ := Lib.hid (And.intro hpe (And.intro hpt (And.intro hpl hpn)))
  clear hpe hpt hpl hpn
  go_wp2_with fail
  refine HPc.out.mono ?_
  rintro e w3 ⟨⟨fa, fn, fc⟩, rfl, h1, h2, h3, h4⟩
  simp only at h1
  subst h1
  have HF3 := Lib.hid (HFc.out.trans' h3)
  have HB3 := Lib.hid (h3.obj HBc.out (fun x => x))
  have HR3 := Lib.hid (RowAt.rd h2)
  unfold SV.val
  dsimp only
  clear h2 h3 h4 HFc HBc HPc
  have HF4 := Lib.hid (HF3.out.alloc (.cells #[.string pt, .slice fa pl.length fc] 27))
  have HB4 := Lib.hid (heap_old (.cells #[.string pt, .slice fa pl.length fc] 27) HB3.out)
  have HC4 := Lib.hid (heap_new w3 (.cells #[.string pt, .slice fa pl.length fc] 27))
  have HR4 := Lib.hid (HR3.out.fr0 ((Fr.refl noBlock w3).alloc (.cells #[.string pt, .slice fa pl.length fc] 27)))
  by_cases he : pe = 0
  · subst he
    obtain ⟨hrm, N, hN, hNl, hX⟩ := par_read HQ.out.1
    have HSm := Lib.hid (small_of hrm)
    have hbr : bytesR (parT c) (parL c) = bytesM (parT c) (parL c) := by unfold bytesR; rw [if_pos hrm]
    rw [HQ.out.2.1, HQ.out.2.2.1] at hrm hX HSm hbr
    have hbr2 := hbr.trans hX
    have hpN : pn = (N : Int) := HQ.out.2.2.2.symm.trans hN
    subst hpN
    go_upto_region 12 with fail
    refine wp_at (φ := fun W => Fr noBlock w W ∧ Fr noBlock w3 W ∧ W.heap[w.heap.size]? = some (.cells #[.string t, .slice ao l.length cap] 27 (0, 0)) ∧ W.heap[w3.heap.size]? = some (.cells #[.string pt, .slice fa pl.length fc] 27 (0, 0))) ⟨HF4.out, (Fr.refl noBlock w3).alloc _, HB4.out, HC4.out⟩ ?_
    rintro W4 ⟨g1, g2, g3, g4⟩
    have HW := Lib.hid (And.intro g1 (And.intro g3 g4))
    have HR5 := Lib.hid (HR3.out.fr0 g2)
    have z0 := cell_of g4 0
    have z1 := cell_of g4 1
    simp at z0 z1
    have HBx := Lib.hid (bytes_any pt HR5.out fc HSm.out)
    unfold ReadP at HBx
    rw [hrm, hbr2] at HBx
    have hNl2 : N ≤ c.length := hNl
    have hNI : (N : Int) ≤ (c.length : Int) := by omega
    have hN0 : (0 : Int) ≤ (N : Int) := by omega
    have HRm := Lib.hid hrm
    clear g1 g2 g3 g4 hrm hN hNl hX hbr hbr2 HF4 HB4 HC4 HR4
    go_wp2_with fail
    refine HBx.out.mono ?_
    rintro e w5 ⟨⟨da, dn, dc⟩, rfl, h1, h2, h3, h4⟩
    simp only at h1
    have hdl : (c.take N).length = N := by rw [List.length_take]; omega
    rw [hdl] at h1
    subst h1
    have hd2 : dn ≤ cc := Nat.le_trans hNl2 HBr.out.2.2.le
    have hcv1 := conv_rd (RowAt.rd h2) dc
    have hcv2 := conv_rd (RowRd.takeN (HBr.out.2.1.fr0 (HW.out.1.trans' h3)) dn) cc
    rw [hdl] at hcv1 hcv2
    obtain ⟨u, hu⟩ : ∃ u, strB (c.take dn) = u := ⟨_, rfl⟩
    rw [hu] at hcv1 hcv2
    have HW5 := Lib.hid (HW.out.1.trans' h3)
    have HP5 := Lib.hid (HR5.out.fr0 h3)
    have hk0 := cell_of (h3.obj HW.out.2.1 (fun x => x)) 0
    have hk1 := cell_of (h3.obj HW.out.2.1 (fun x => x)) 1
    have hk2 := cell_of (h3.obj HW.out.2.2 (fun x => x)) 0
    have hk3 := cell_of (h3.obj HW.out.2.2 (fun x => x)) 1
    simp at hk0 hk1 hk2 hk3
    have HK := Lib.hid (show ∀ W, Fr noBlock w5 W → W.cell? ⟨w.heap.size, 0, none⟩ = some (.string t) ∧ W.cell? ⟨w.heap.size, 1, none⟩ = some (.slice ao l.length cap) ∧ W.cell? ⟨w3.heap.size, 0, none⟩ = some (.string pt) ∧ W.cell? ⟨w3.heap.size, 1, none⟩ = some (.slice fa pl.length fc) ∧
        Sem.run Tryd.prog (convert 22 9 (.slice da dn dc)) W = .ok (.string u) W ∧ Sem.run Tryd.prog (convert 22 9 (.slice co dn cc)) W = .ok (.string u) W from fun W hf => by
      have c1 := conv_rd ((RowAt.rd h2).fr0 hf) dc
      have c2 := conv_rd ((RowRd.takeN (HBr.out.2.1.fr0 (HW.out.1.trans' h3)) dn).fr0 hf) cc
      rw [hdl, hu] at c1 c2
      exact ⟨(hf.cell (p := ⟨w.heap.size, 0, none⟩) (World.block_lt_of_cell? _ _ hk0) (fun x => x)).trans hk0, (hf.cell (p := ⟨w.heap.size, 1, none⟩) (World.block_lt_of_cell? _ _ hk1) (fun x => x)).trans hk1, (hf.cell (p := ⟨w3.heap.size, 0, none⟩) (World.block_lt_of_cell? _ _ hk2) (fun x => x)).trans hk2, (hf.cell (p := ⟨w3.heap.size, 1, none⟩) (World.block_lt_of_cell? _ _ hk3) (fun x => x)).trans hk3, c1, c2⟩)
    have HRa := Lib.hid (fun (W : World) (hf : Fr noBlock w5 W) => right_any t (HA.out.rd.fr0 (HW5.out.trans' hf)) cap HA.out.small)
    have HRb := Lib.hid (fun (W : World) (hf : Fr noBlock w5 W) => right_any pt (HP5.out.fr0 hf) fc HSm.out)
    unfold RightP at HRa HRb
    rw [HEr.out] at HRa
    rw [HRm.out] at HRb
    unfold SV.val
    dsimp only
    clear h2 h3 h4 hdl hu z0 z1 HW HR5 HBx hcv1 hcv2 hk0 hk1 hk2 hk3
    go_upto_region 13 with fail
    obtain ⟨k0, k1, k2, k3, k4, k5⟩ := HK.out _ (Fr.refl _ _)
    go_region_held3 (fun W => W.cell? ⟨w.heap.size, 0, none⟩ = some (.string t) ∧ W.cell? ⟨w.heap.size, 1, none⟩ = some (.slice ao l.length cap) ∧ W.cell? ⟨w3.heap.size, 0, none⟩ = some (.string pt) ∧ W.cell? ⟨w3.heap.size, 1, none⟩ = some (.slice fa pl.length fc) ∧
        Sem.run Tryd.prog (convert 22 9 (.slice da dn dc)) W = .ok (.string u) W ∧ Sem.run Tryd.prog (convert 22 9 (.slice co dn cc)) W = .ok (.string u) W)
      (first | exact HK.out _ (Fr.refl _ _) | exact HK.out _ ((Fr.refl _ _).drew) | exact HK.out _ (((Fr.refl _ _).drew).trans' f7) | exact HK.out _ ((((Fr.refl _ _).drew).trans' f7).trans' f8))
      (first
        | (go_at_call 17; (with_reducible refine (HRa.out _ ((Fr.refl _ _).drew)).mono ?_); rintro e w7 ⟨rfl, f7⟩)
        | (go_at_call 17; (with_reducible refine (HRb.out _ (((Fr.refl _ _).drew).trans' f7)).mono ?_); rintro e w8 ⟨rfl, f8⟩))
    have HFin := Lib.hid ((HW5.out.trans' (((Fr.refl noBlock w5).drew).trans' f7)).trans' f8)
    clear f7 f8 k0 k1 k2 k3 k4 k5
    go_wp2_with fail
    go_ret
    exact LawP.mk' HFin.out
  · have hne : (pe != 0) = true := by simpa using he
    obtain ⟨hl0, hn0⟩ := par_err (b := c) (by rw [HQ.out.1]; exact he)
    rw [HQ.out.2.2.1] at hl0
    rw [HQ.out.2.2.2] at hn0
    subst hl0 hn0
    have HRt := Lib.hid (right_any t (HA.out.rd.fr0 HF4.out) cap HA.out.small)
    unfold RightP at HRt
    rw [HEr.out] at HRt
    have z0 := cell_of HB4.out 0
    have z1 := cell_of HB4.out 1
    simp at z0 z1
    have HC := Lib.hid (fun (W : World) (f : Fr noBlock (w3.alloc (.cells #[.string pt, .slice fa ([] : List Fld).length fc] 27)) W) => (cell_of (f.obj HC4.out (fun x => x)) 1))
    go_wp2_with fail
    refine HRt.out.mono ?_
    rintro e w5 ⟨rfl, f5⟩
    have z2 := HC.out _ f5
    simp at z2
    have HF5 := Lib.hid (HF4.out.trans' f5)
    clear f5 z0 z1
    go_wp2_with fail
    go_ret
    exact LawP.mk' HF5.out
end Go.Proofs.YthckgkghmlkcnaaDoor
