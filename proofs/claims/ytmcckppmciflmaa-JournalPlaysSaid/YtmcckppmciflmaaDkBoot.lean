/-
  THE WALK of disk.Boot.
-/
import Derived.Test.YtmcckppmciflmaaDkFlush
namespace Go.Proofs.Ytmcckppmciflmaa
open Go.RowKit

theorem keepN_at {size : Nat} {keep : List Int} {i : Nat} (h : i < keep.length) : ((keepN size keep i : Nat) : Int) = keep[i] % ((size : Int) + 1) := by
  unfold keepN
  rw [List.getElem?_eq_getElem h]
  have := Int.emod_nonneg keep[i] (show ((size : Int) + 1) ≠ 0 by omega)
  simp only
  omega
theorem keepN_none {size : Nat} {keep : List Int} {i : Nat} (h : ¬ i < keep.length) : keepN size keep i = 0 := by
  unfold keepN
  rw [List.getElem?_eq_none (by omega)]

def BootP (l : Nat) (d' : DK) (F : Nat → Prop) (w : World) (e : Ending) (w' : World) : Prop := ∃ F', e = .returned (.tuple #[]) ∧ DiskAt l d' w' F' ∧ Step F F' w w'
set_option maxRecDepth 100000 in
set_option maxHeartbeats 1600000 in
theorem boot_any {l : Nat} {d : DK} {w : World} {F : Nat → Prop} (h : DiskAt l d w F) {ak : Option Addr} {keep : List Int} (hk : Beside ak keep w F) (ck : Nat) (hkl : keep.length ≤ 9223372036854775807) :
    Calls Try.prog 19 #[.pointer (some ⟨l, 0, none⟩), .slice ak keep.length ck] w (BootP l (d.boot keep) F w) := by
  have H := Lib.hid h
  have hgood := h.good
  have hs1 := hgood.s1
  have hdl := dirt_len hgood
  have hdirty := dirty_any h
  have HFl := Lib.hid (DiskAt.ok.lt h)
  have HK := Lib.hid hk
  clear hgood h hk
  go_enter Try.func19, Try.ntmps19
  go_wp2_with fail
  refine hdirty.mono ?_
  rintro e w1 ⟨ao, cap, rfl, r1, f1, n1⟩
  have B1 := Lib.hid (Beside.mk (ao := ao) (xs := dirtNs d.dirty) (w := w1) (F := F) (RowAt.rd r1) (fun _ a e => by
    have hk : (Value.slice ao d.dirty.length cap).ownBlock = some a.block := by rw [e]; rfl
    have h1 := n1 _ hk
    exact ⟨fun hf => by have := HFl.out _ hf; omega, r1.lt _ hk⟩))
  have K1 := Lib.hid (HK.out.step (Step.same (F := F) f1))
  have Hf1 := Lib.hid f1
  clear r1 f1 n1 hdirty
  go_wp2_with fail
  go_loopw [10] (fun s10 wr => ∃ (i : Nat) (G : Nat → Prop), i ≤ d.dirty.length ∧ s10 = .int .i64 i ∧ DiskAt l (d.bt keep i) wr G ∧ Step F G w wr ∧ Beside ao (dirtNs d.dirty) wr G ∧ Beside ak keep wr G) (fun s10 _ => d.dirty.length - (intOf s10).toNat)
  case atStart => exact ⟨0, F, Nat.zero_le _, rfl, by rw [bt_zero]; exact DiskAt.ok.fr0 H.out Hf1.out, Step.same Hf1.out, B1.out, K1.out⟩
  case round =>
    obtain ⟨i, G, hi, rfl, hA, hS, hB, hK⟩ := hrel
    have HA := Lib.hid (And.intro hA (And.intro hS (And.intro hB hK)))
    by_cases hlt : i < d.dirty.length
    · have q2 : (i : Int) < (d.dirty.length : Int) := by omega
      have q0 : (0 : Int) ≤ (i : Int) := by omega
      have hin : i < (dirtNs d.dirty).length := by simpa [dirtNs] using hlt
      obtain ⟨bb, off, e, _⟩ := hB.rd.at' i hin
      subst e
      have y0 := int_rd hB.rd hin
      have hnum : (dirtNs d.dirty)[i] = (d.dirty[i].1 : Int) := by simp [dirtNs]
      rw [hnum] at y0
      have y4 : wr.cell? ⟨l, 4, none⟩ = some (.int .i64 d.size) := hA.size_cell.1
      have hdd : (d.bt keep i).dirty = (d.dirty[i].1, d.dirty[i].2) :: d.dirty.drop (i + 1) := drop_cons hlt
      have hland := Lib.hid (fun (W : World) (hW : Fr noBlock wr W) => land_any (DiskAt.ok.fr0 hA hW) hdd (keepN d.size keep i) (keepN_le _ _ _))
      have Hst := Lib.hid (bt_step d keep (i := i) hlt)
      by_cases hkk : i < keep.length
      · have qk : (i : Int) < (keep.length : Int) := by omega
        obtain ⟨bk, ofk, ek, _⟩ := hK.rd.at' i hkk
        subst ek
        have z0 := int_rd hK.rd hkk
        have Hkn := Lib.hid (keepN_at (size := d.size) hkk)
        generalize keepN d.size keep i = kn at *
        generalize keep[i] = kv at *
        generalize d.dirty[i] = p at *
        clear hA hS hB hK hnum hdd hlt hkk
        have hwp : IntKind.i64.wrap ((d.size : Int) + 1) = (d.size : Int) + 1 := IntWalk.i64_in _ (by omega)
        go_wp2_with fail
        go_region_held3 (fun W => W.cell? ⟨bk, ofk + i, none⟩ = some (.int .i64 kv) ∧ W.cell? ⟨l, 4, none⟩ = some (.int .i64 d.size)) (go_keep)
          ((go_at_call 39; (with_reducible refine (modulo_any _ _ _ (by omega) (by omega)).mono ?_); rintro e w5 ⟨rfl, rfl⟩))
        clear hwp
        go_wp2_with fail
        rw [← Hkn.out]
        refine (hland.out _ ((Fr.refl _ _).drew)).mono ?_
        rintro e w5 ⟨G', rfl, h5, s5⟩
        have H5 := Lib.hid (And.intro h5 s5)
        clear h5 s5
        go_wp2_with fail
        go_roundw
        case rel => exact ⟨i + 1, G', by omega, by go_num, by rw [Hst.out]; exact H5.out.1, HA.out.2.1.trans ((Step.same ((Fr.refl noBlock _).drew)).trans H5.out.2), HA.out.2.2.1.step ((Step.same ((Fr.refl noBlock _).drew)).trans H5.out.2), HA.out.2.2.2.step ((Step.same ((Fr.refl noBlock _).drew)).trans H5.out.2)⟩
        case measure => simp [intOf]; omega
      · have qk : (keep.length : Int) ≤ (i : Int) := by omega
        have Hkn := Lib.hid (keepN_none (size := d.size) hkk)
        generalize keepN d.size keep i = kn at *
        generalize d.dirty[i] = p at *
        clear hA hS hB hK hnum hdd hlt hkk
        go_wp2_with fail
        rw [show (0 : Int) = ((kn : Nat) : Int) by rw [Hkn.out]; rfl]
        refine (hland.out _ (Fr.refl _ _)).mono ?_
        rintro e w5 ⟨G', rfl, h5, s5⟩
        have H5 := Lib.hid (And.intro h5 s5)
        clear h5 s5
        go_wp2_with fail
        go_roundw
        case rel => exact ⟨i + 1, G', by omega, by go_num, by rw [Hst.out]; exact H5.out.1, HA.out.2.1.trans H5.out.2, HA.out.2.2.1.step H5.out.2, HA.out.2.2.2.step H5.out.2⟩
        case measure => simp [intOf]; omega
    · have q2 : (d.dirty.length : Int) ≤ (i : Int) := by omega
      have e : i = d.dirty.length := by omega
      have hF := HA.out
      rw [e] at hF
      obtain ⟨acts, part, sv, ss, bm, g, hin⟩ := hF.1
      obtain ⟨c0, c1, c2, c3, _, _, _⟩ := hin.cells
      have z0 := free_of hin.box 0
      have z1 := free_of hin.box 1
      have z2 := free_of hin.box 2
      have z3 := free_of hin.box 3
      have HF := Lib.hid hF
      have Hin := Lib.hid hin
      have Hbox := Lib.hid hin.box
      have Hne := Lib.hid ((hin.foot l).2 (.inl rfl))
      have Hg := Lib.hid (hin.good)
      clear hA hS hB hK hlt e hF hin
      go_wp2_with fail
      go_end0
      have hfr := ((((Fr.refl (fun k => k = l) wr).setCell (p := ⟨l, 0, none⟩) (.inl rfl) (.bool false)).setCell (p := ⟨l, 1, none⟩) (.inl rfl) (.bool false)).setCell (p := ⟨l, 2, none⟩) (.inl rfl) (.int .i64 0)).setCell (p := ⟨l, 3, none⟩) (.inl rfl) (.int .i64 0)
      have hbx := heap_set_eq (i := 3) (u := .int .i64 0) (heap_set_eq (i := 2) (u := .int .i64 0) (heap_set_eq (i := 1) (u := .bool false) (heap_set_eq (i := 0) (u := .bool false) Hbox.out)))
      have hg := Hg.out
      refine ⟨G, rfl, ?_, HF.out.2.1.trans ⟨hfr.mono (fun k hk => by subst hk; exact Hne.out), fun _ hk => .inl hk⟩⟩
      rw [bt_boot]
      exact ⟨_, _, _, _, _, _, Hin.out.power hfr (off := false) (arm := none) (acts' := 0) (part' := 0) (by simpa using hbx) (fun _ _ h => by cases h) ⟨hg.s0, hg.s1, hg.n1, hg.sizes, hg.rise, hg.there, fun _ _ h => by cases h⟩⟩
end Go.Proofs.Ytmcckppmciflmaa
